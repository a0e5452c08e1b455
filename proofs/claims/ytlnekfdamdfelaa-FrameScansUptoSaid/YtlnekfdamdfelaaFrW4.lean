/- Walk of the law FrameBack. -/
import Derived.Test.YtlnekfdamdfelaaFrW3
set_option linter.unusedVariables false
set_option linter.unusedSimpArgs false
namespace Go.Proofs.Ytlnekfdamdfelaa
open Go.RowKit PackMath SumMath FrMath

/-- A frame's box, kept. -/
structure Fr (w : World) (p : Nat) (k : Int) (b : ByteArray) : Prop where
  c0 : w.cell? ⟨p, 0, none⟩ = some (.int .i64 k)
  c1 : w.cell? ⟨p, 1, none⟩ = some (.string b)
theorem Fr.below {w w' : World} {p : Nat} {k : Int} {b : ByteArray} (h : Fr w p k b) (hb : Below w.heap.size w w') : Fr w' p k b := ⟨bl_cell hb h.c0, bl_cell hb h.c1⟩
theorem Fr.box (w : World) (k : Int) (b : ByteArray) : Fr (w.alloc (.cells #[.int .i64 k, .string b] 25)) w.heap.size k b := ⟨by rw [World.cell?_alloc_mark]; rfl, by rw [World.cell?_alloc_mark]; rfl⟩

set_option maxHeartbeats 1000000 in
set_option maxRecDepth 100000 in
theorem fback_bad_fail (w : World) (k : Int) (body : ByteArray) (hs : body.size ≤ 140737488351232) (s : ByteArray) (hss : s.size ≤ 140737488355328) (hc : frE k body ≠ 0) (E : Nat) (hD : decP s = (E, (0, (⟨#[]⟩, 0)))) (hE : E ≠ 0) :
    Calls Try.prog 5 #[.agg #[.int .i64 k, .string body], .string s] w fun e w' => e = .returned (.bool true) ∧ Below w.heap.size w w' := by
  have HX := Lib.hid (fun W => decF_of hD (show s.size < 281474976710656 by omega) W)
  have hed : ((E : Int) != 0) = true := by simp; omega
  clear hD hE
  have hcd : (((frE k body : Nat) : Int) == 0) = false := by simp; omega
  clear hc
  go_enter Try.func5, Try.ntmps5
  go_wp2_with (go_at_call 9; refine (fFrames _).mono ?_; rintro e w1 ⟨rfl, hb⟩; have HB1 := Lib.hid (bl_trans (bl_alloc (Below.refl _ w) _) hb); have c0 := ((Fr.box w k body).below hb).c0; have c1 := ((Fr.box w k body).below hb).c1; clear hb)
  go_wp2_with (go_at_call 10; (with_reducible refine (fEncode _ k body).mono ?_); rintro r wz ⟨rfl, hb⟩; have HBz := Lib.hid (bl_trans HB1.out hb); clear hb c0 c1)
  go_wp2_with (go_at_call 13; (with_reducible refine (HX.out wz).mono ?_); rintro r wy ⟨rfl, hb⟩; have HBy := Lib.hid (bl_trans HBz.out hb); clear hb)
  go_ret
  exact ⟨rfl, bl_alloc HBy.out _⟩

set_option maxHeartbeats 1000000 in
set_option maxRecDepth 100000 in
theorem fback_bad_fine (w : World) (k : Int) (body : ByteArray) (hs : body.size ≤ 140737488351232) (s : ByteArray) (hss : s.size ≤ 140737488355328) (hc : frE k body ≠ 0) (x : Nat) (bb : ByteArray) (n : Nat) (hD : decP s = (0, (x, (bb, n)))) :
    Calls Try.prog 5 #[.agg #[.int .i64 k, .string body], .string s] w fun e w' => e = .returned (.bool true) ∧ Below w.heap.size w w' := by
  have HX := Lib.hid (fun W => decF_of hD (show s.size < 281474976710656 by omega) W)
  obtain ⟨t1, t2, t3, t4, t5⟩ := dec_told hD
  have HEN := Lib.hid (fun W => fEncode_ok W x bb t1 t2 t3)
  have ht : (⟨(encF x bb).toArray⟩ : ByteArray) = s.extract 0 n := ba_ext (by rw [extract_list, List.drop_zero]; exact t5)
  rw [ht] at HEN
  have hle : decide ((n : Int) ≤ (s.size : Int)) = true := by simp; omega
  clear hD t1 t2 t3 t5 ht
  have hcd : (((frE k body : Nat) : Int) == 0) = false := by simp; omega
  clear hc
  go_enter Try.func5, Try.ntmps5
  go_wp2_with (go_at_call 9; refine (fFrames _).mono ?_; rintro e w1 ⟨rfl, hb⟩; have HB1 := Lib.hid (bl_trans (bl_alloc (Below.refl _ w) _) hb); have c0 := ((Fr.box w k body).below hb).c0; have c1 := ((Fr.box w k body).below hb).c1; clear hb)
  go_wp2_with (go_at_call 10; (with_reducible refine (fEncode _ k body).mono ?_); rintro r wz ⟨rfl, hb⟩; have HBz := Lib.hid (bl_trans HB1.out hb); clear hb c0 c1)
  go_wp2_with (go_at_call 13; (with_reducible refine (HX.out wz).mono ?_); rintro r wy ⟨rfl, hb⟩; have HBy := Lib.hid (bl_trans HBz.out hb); clear hb)
  go_wp2_with (go_at_call 10; (with_reducible refine (HEN.out _).mono ?_); rintro r wv ⟨rfl, hb⟩; have HBv := Lib.hid (bl_trans (bl_alloc HBy.out _) hb); clear hb)
  go_ret
  exact ⟨rfl, HBv.out⟩

set_option maxHeartbeats 1000000 in
set_option maxRecDepth 100000 in
theorem fback_ok_fail (w : World) (k : Int) (body : ByteArray) (hs : body.size ≤ 140737488351232) (s : ByteArray) (hss : s.size ≤ 140737488355328) (hK : ¬ (k < 1 ∨ 255 < k)) (hl : ¬ 1048576 < body.size) (E : Nat) (hD : decP s = (E, (0, (⟨#[]⟩, 0)))) (hE : E ≠ 0) :
    Calls Try.prog 5 #[.agg #[.int .i64 k, .string body], .string s] w fun e w' => e = .returned (.bool true) ∧ Below w.heap.size w w' := by
  have HX := Lib.hid (fun W => decF_of hD (show s.size < 281474976710656 by omega) W)
  have hed : ((E : Int) != 0) = true := by simp; omega
  clear hD hE
  obtain ⟨K, rfl⟩ := Int.eq_ofNat_of_zero_le (show 0 ≤ k by omega)
  obtain ⟨S, hSd⟩ : ∃ S : ByteArray, S = ⟨(encF K body).toArray⟩ := ⟨_, rfl⟩
  have hSl : S.data.toList = encF K body := by rw [hSd]
  have hSz : S.size = body.size + 9 := by rw [← size_list, hSl, encF_len]
  have hD1 : decP (S ++ s) = (0, (K, (body, body.size + 9))) := dec_frame (post := s.data.toList) (by omega) (by omega) (by omega) (by rw [ByteArray.data_append, Array.toList_append, hSl])
  have HE := Lib.hid (fun W => fEncode_ok W K body (by omega) (by omega) (by omega))
  rw [← hSd] at HE
  rw [show body.size + 9 = S.size from hSz.symm] at hD1
  have HD := Lib.hid (fun W => decF_of hD1 (show (S ++ s).size < 281474976710656 by rw [ByteArray.size_append]; omega) W)
  have hcat : ¬ (9223372036854775807 < S.size + s.size) := by omega
  have HSZ := Lib.hid (fun W => fSize W K body (by omega))
  have hq2 : (body.size : Int) + 9 = (S.size : Int) := by omega
  rw [hq2] at HSZ
  clear hK hl hSd hSl hSz hD1 hq2
  go_enter Try.func5, Try.ntmps5
  go_wp2_with (go_at_call 9; refine (fFrames _).mono ?_; rintro e w1 ⟨rfl, hb⟩; have HB1 := Lib.hid (bl_trans (bl_alloc (Below.refl _ w) _) hb); have HR1 := Lib.hid ((Fr.box w K body).below hb); have c0 := ((Fr.box w K body).below hb).c0; have c1 := ((Fr.box w K body).below hb).c1; clear hb)
  go_wp2_with (go_at_call 10; (with_reducible refine (HE.out _).mono ?_); rintro r w2 ⟨rfl, hb⟩; have HB2 := Lib.hid (bl_trans HB1.out hb); have HR2 := Lib.hid (HR1.out.below hb); clear hb c0 c1)
  go_wp2_with (go_at_call 13; (with_reducible refine (HD.out _).mono ?_); rintro r w3 ⟨rfl, hb⟩; have HB3 := Lib.hid (bl_alloc (bl_trans HB2.out hb) (.cells #[.int .i64 K, .string body] 25)); have HR3 := Lib.hid ((HR2.out.below hb).below (bl_alloc (Below.refl _ w3) (.cells #[.int .i64 K, .string body] 25))); have d0 := ((HR2.out.below hb).below (bl_alloc (Below.refl _ w3) (.cells #[.int .i64 K, .string body] 25))).c0; have d1 := ((HR2.out.below hb).below (bl_alloc (Below.refl _ w3) (.cells #[.int .i64 K, .string body] 25))).c1; clear hb)
  go_wp2_with (go_at_call 15; (with_reducible refine (HSZ.out _).mono ?_); rintro r wz ⟨rfl, hb⟩; have HBz := Lib.hid (bl_trans HB3.out hb); clear hb d0 d1)
  go_wp2_with (go_at_call 13; (with_reducible refine (HX.out wz).mono ?_); rintro r wy ⟨rfl, hb⟩; have HBy := Lib.hid (bl_trans HBz.out hb); clear hb)
  go_ret
  exact ⟨rfl, bl_alloc HBy.out _⟩

set_option maxHeartbeats 1000000 in
set_option maxRecDepth 100000 in
theorem fback_ok_fine (w : World) (k : Int) (body : ByteArray) (hs : body.size ≤ 140737488351232) (s : ByteArray) (hss : s.size ≤ 140737488355328) (hK : ¬ (k < 1 ∨ 255 < k)) (hl : ¬ 1048576 < body.size) (x : Nat) (bb : ByteArray) (n : Nat) (hD : decP s = (0, (x, (bb, n)))) :
    Calls Try.prog 5 #[.agg #[.int .i64 k, .string body], .string s] w fun e w' => e = .returned (.bool true) ∧ Below w.heap.size w w' := by
  have HX := Lib.hid (fun W => decF_of hD (show s.size < 281474976710656 by omega) W)
  obtain ⟨t1, t2, t3, t4, t5⟩ := dec_told hD
  have HEN := Lib.hid (fun W => fEncode_ok W x bb t1 t2 t3)
  have ht : (⟨(encF x bb).toArray⟩ : ByteArray) = s.extract 0 n := ba_ext (by rw [extract_list, List.drop_zero]; exact t5)
  rw [ht] at HEN
  have hle : decide ((n : Int) ≤ (s.size : Int)) = true := by simp; omega
  clear hD t1 t2 t3 t5 ht
  obtain ⟨K, rfl⟩ := Int.eq_ofNat_of_zero_le (show 0 ≤ k by omega)
  obtain ⟨S, hSd⟩ : ∃ S : ByteArray, S = ⟨(encF K body).toArray⟩ := ⟨_, rfl⟩
  have hSl : S.data.toList = encF K body := by rw [hSd]
  have hSz : S.size = body.size + 9 := by rw [← size_list, hSl, encF_len]
  have hD1 : decP (S ++ s) = (0, (K, (body, body.size + 9))) := dec_frame (post := s.data.toList) (by omega) (by omega) (by omega) (by rw [ByteArray.data_append, Array.toList_append, hSl])
  have HE := Lib.hid (fun W => fEncode_ok W K body (by omega) (by omega) (by omega))
  rw [← hSd] at HE
  rw [show body.size + 9 = S.size from hSz.symm] at hD1
  have HD := Lib.hid (fun W => decF_of hD1 (show (S ++ s).size < 281474976710656 by rw [ByteArray.size_append]; omega) W)
  have hcat : ¬ (9223372036854775807 < S.size + s.size) := by omega
  have HSZ := Lib.hid (fun W => fSize W K body (by omega))
  have hq2 : (body.size : Int) + 9 = (S.size : Int) := by omega
  rw [hq2] at HSZ
  clear hK hl hSd hSl hSz hD1 hq2
  go_enter Try.func5, Try.ntmps5
  go_wp2_with (go_at_call 9; refine (fFrames _).mono ?_; rintro e w1 ⟨rfl, hb⟩; have HB1 := Lib.hid (bl_trans (bl_alloc (Below.refl _ w) _) hb); have HR1 := Lib.hid ((Fr.box w K body).below hb); have c0 := ((Fr.box w K body).below hb).c0; have c1 := ((Fr.box w K body).below hb).c1; clear hb)
  go_wp2_with (go_at_call 10; (with_reducible refine (HE.out _).mono ?_); rintro r w2 ⟨rfl, hb⟩; have HB2 := Lib.hid (bl_trans HB1.out hb); have HR2 := Lib.hid (HR1.out.below hb); clear hb c0 c1)
  go_wp2_with (go_at_call 13; (with_reducible refine (HD.out _).mono ?_); rintro r w3 ⟨rfl, hb⟩; have HB3 := Lib.hid (bl_alloc (bl_trans HB2.out hb) (.cells #[.int .i64 K, .string body] 25)); have HR3 := Lib.hid ((HR2.out.below hb).below (bl_alloc (Below.refl _ w3) (.cells #[.int .i64 K, .string body] 25))); have d0 := ((HR2.out.below hb).below (bl_alloc (Below.refl _ w3) (.cells #[.int .i64 K, .string body] 25))).c0; have d1 := ((HR2.out.below hb).below (bl_alloc (Below.refl _ w3) (.cells #[.int .i64 K, .string body] 25))).c1; clear hb)
  go_wp2_with (go_at_call 15; (with_reducible refine (HSZ.out _).mono ?_); rintro r wz ⟨rfl, hb⟩; have HBz := Lib.hid (bl_trans HB3.out hb); clear hb d0 d1)
  go_wp2_with (go_at_call 13; (with_reducible refine (HX.out wz).mono ?_); rintro r wy ⟨rfl, hb⟩; have HBy := Lib.hid (bl_trans HBz.out hb); clear hb)
  go_wp2_with (go_at_call 10; (with_reducible refine (HEN.out _).mono ?_); rintro r wv ⟨rfl, hb⟩; have HBv := Lib.hid (bl_trans (bl_alloc HBy.out _) hb); clear hb)
  go_ret
  exact ⟨rfl, HBv.out⟩

theorem frameBack_any (w : World) (k : Int) (body : ByteArray) (hs : body.size ≤ 140737488351232) (s : ByteArray) (hss : s.size ≤ 140737488355328) :
    Calls Try.prog 5 #[.agg #[.int .i64 k, .string body], .string s] w fun e w' => e = .returned (.bool true) ∧ Below w.heap.size w w' := by
  obtain ⟨E, x, bb, n, hD⟩ : ∃ E x bb n, decP s = (E, (x, (bb, n))) := ⟨_, _, _, _, rfl⟩
  by_cases hf : (k < 1 ∨ 255 < k)
  · have hc : frE k body ≠ 0 := by rw [(fr_kind (body := body) hf).1]; decide
    by_cases hE : E = 0
    · subst hE
      exact fback_bad_fine w k body hs s hss hc x bb n hD
    · obtain ⟨rfl, rfl, rfl⟩ := dec_not hD hE
      exact fback_bad_fail w k body hs s hss hc E hD hE
  · by_cases hl : 1048576 < body.size
    · have hc : frE k body ≠ 0 := by rw [(fr_long hf hl).1]; decide
      by_cases hE : E = 0
      · subst hE
        exact fback_bad_fine w k body hs s hss hc x bb n hD
      · obtain ⟨rfl, rfl, rfl⟩ := dec_not hD hE
        exact fback_bad_fail w k body hs s hss hc E hD hE
    · by_cases hE : E = 0
      · subst hE
        exact fback_ok_fine w k body hs s hss hf hl x bb n hD
      · obtain ⟨rfl, rfl, rfl⟩ := dec_not hD hE
        exact fback_ok_fail w k body hs s hss hf hl E hD hE
end Go.Proofs.Ytlnekfdamdfelaa
