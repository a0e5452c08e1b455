/- Walks of layer 7: the bytes of a frame, in the program and in the document's answer. -/
import Derived.Test.YtlnekfdamdfelaaFrMath
import Derived.Test.YtlnekfdamdfelaaSumW4
import Derived.Test.YtlnekfdamdfelaaPackS
import Derived.Test.YtlnekfdamdfelaaNum
import Derived.Deep.RegionHeld3
set_option linter.unusedVariables false
set_option linter.unusedSimpArgs false
namespace Go.Proofs.Ytlnekfdamdfelaa
open Go.RowKit PackMath SumMath FrMath

theorem wU32_at (B p : Nat) (x : Int) (k : Nat) (hx : x = k) (w : World) (v : Value) (bs : List UInt8) (hk : k < 4294967296) (h : IsWr B w p v bs) (hB : B ≤ w.heap.size) (hl : bs.length + 8 ≤ 140737488355328) :
    Calls Try.prog 23 #[.pointer (some ⟨p, 0, none⟩), .int .u32 x] w fun e w' => e = .returned (.tuple #[]) ∧ ∃ v', IsWr B w' p v' (bs ++ be k 4) ∧ Moved w w' p v v' := by
  subst hx
  exact u32_any B p k w v bs hk h hB hl
theorem wU8_at (B p : Nat) (x : Int) (k : Nat) (hx : x = k) (w : World) (v : Value) (bs : List UInt8) (hk : k < 256) (h : IsWr B w p v bs) (hB : B ≤ w.heap.size) (hl : bs.length + 8 ≤ 140737488355328) :
    Calls Try.prog 22 #[.pointer (some ⟨p, 0, none⟩), .int .u8 x] w fun e w' => e = .returned (.tuple #[]) ∧ ∃ v', IsWr B w' p v' (bs ++ be k 1) ∧ Moved w w' p v v' := by
  subst hx
  exact u8_any B p k w v bs hk h hB hl
theorem flat_one (S : ByteArray) : flat [S] = S.data.toList := by simp [flat]
theorem sumOne (S : ByteArray) (hs : S.size ≤ maxLen) (w : World) :
    Calls Try.prog 25 #[.slice (some ⟨w.heap.size, 0, none⟩) 1 1] (w.alloc (.cells #[.string S] 9)) fun e w' => e = .returned (.int .u32 (crc S.data.toList)) ∧ Below w.heap.size w w' := by
  have := sum_at (some ⟨w.heap.size, 0, none⟩) 1 1 [S] rfl (by decide) _ (strs_new w 9 [S] (by simpa using hs) _ rfl)
  rw [flat_one] at this
  exact this.mono fun e w' ⟨h1, h2⟩ => ⟨h1, bl_trans (bl_alloc (Below.refl _ _) _) h2⟩
theorem refSumOne (S : ByteArray) (hs : S.size ≤ maxLen) (w : World) :
    Calls Try.prog 12 #[.slice (some ⟨w.heap.size, 0, none⟩) 1 1] (w.alloc (.cells #[.string S] 9)) fun e w' => e = .returned (.int .u32 (crc S.data.toList)) ∧ Below w.heap.size w w' := by
  have := refsum_any (some ⟨w.heap.size, 0, none⟩) 1 [S] (by simp [maxLen]) _ (strs_new w 9 [S] (by simpa using hs) _ rfl)
  rw [flat_one] at this
  exact this.mono fun e w' ⟨h1, h2⟩ => ⟨h1, by rw [← h2]; exact bl_alloc (Below.refl _ _) _⟩

theorem wr_box (w : World) (o : Obj) : IsWr (w.heap.size + 1) ((w.alloc o).alloc (.cells #[.slice none 0 0] 70)) (w.heap.size + 1) (.slice none 0 0) [] := by
  have := wr_new (w.alloc o)
  rwa [show (w.alloc o).heap.size = w.heap.size + 1 by simp] at this
theorem ba_ext {S T : ByteArray} (h : S.data.toList = T.data.toList) : S = T := by
  cases S; cases T; simp only [ByteArray.mk.injEq]; exact Array.toList_inj.1 h
section
variable (w : World)
theorem fSize (k : Int) (body : ByteArray) (hs : body.size ≤ 140737488355328) :
    Calls Try.prog 15 #[.agg #[.int .i64 k, .string body]] w fun e w' => e = .returned (.int .i64 ((body.size : Int) + 9)) ∧ Below w.heap.size w w' := by
  go_enter Try.func15, Try.ntmps15
  go_wp2
  go_ret
  exact ⟨rfl, bl_alloc (Below.refl _ _) _⟩

theorem fEncode_kind (k : Int) (body : ByteArray) (hk : k < 1 ∨ 255 < k) :
    Calls Try.prog 10 #[.agg #[.int .i64 k, .string body]] w fun e w' => e = .returned (.tuple #[.string ⟨#[]⟩, .int .i64 1]) ∧ Below w.heap.size w w' := by
  rcases hk with h | h
  · have hd : decide (k < 1) = true := by simpa using h
    go_enter Try.func10, Try.ntmps10
    go_wp2
    go_ret2
    exact ⟨rfl, bl_alloc (Below.refl _ _) _⟩
  · have hd : decide (k < 1) = false := by simp; omega
    have hd2 : decide (255 < k) = true := by simpa using h
    go_enter Try.func10, Try.ntmps10
    go_wp2
    go_ret2
    exact ⟨rfl, bl_alloc (Below.refl _ _) _⟩
theorem rEncode_kind (k : Int) (body : ByteArray) (hk : k < 1 ∨ 255 < k) :
    Calls Try.prog 14 #[.agg #[.int .i64 k, .string body]] w fun e w' => e = .returned (.tuple #[.string ⟨#[]⟩, .int .i64 1]) ∧ Below w.heap.size w w' := by
  rcases hk with h | h
  · have hd : decide (k < 1) = true := by simpa using h
    go_enter Try.func14, Try.ntmps14
    go_wp2
    go_ret2
    exact ⟨rfl, bl_alloc (Below.refl _ _) _⟩
  · have hd : decide (k < 1) = false := by simp; omega
    have hd2 : decide (255 < k) = true := by simpa using h
    go_enter Try.func14, Try.ntmps14
    go_wp2
    go_ret2
    exact ⟨rfl, bl_alloc (Below.refl _ _) _⟩
theorem fEncode_long (k : Int) (body : ByteArray) (hk : ¬ (k < 1 ∨ 255 < k)) (hl : 1048576 < body.size) :
    Calls Try.prog 10 #[.agg #[.int .i64 k, .string body]] w fun e w' => e = .returned (.tuple #[.string ⟨#[]⟩, .int .i64 5]) ∧ Below w.heap.size w w' := by
  have hd : decide (k < 1) = false := by simp; omega
  have hd2 : decide (255 < k) = false := by simp; omega
  have hd3 : decide ((1048576 : Int) < (body.size : Int)) = true := by simp; omega
  clear hk
  go_enter Try.func10, Try.ntmps10
  go_wp2
  go_ret2
  exact ⟨rfl, bl_alloc (Below.refl _ _) _⟩
theorem rEncode_long (k : Int) (body : ByteArray) (hk : ¬ (k < 1 ∨ 255 < k)) (hl : 1048576 < body.size) :
    Calls Try.prog 14 #[.agg #[.int .i64 k, .string body]] w fun e w' => e = .returned (.tuple #[.string ⟨#[]⟩, .int .i64 5]) ∧ Below w.heap.size w w' := by
  have hd : decide (k < 1) = false := by simp; omega
  have hd2 : decide (255 < k) = false := by simp; omega
  have hd3 : decide ((1048576 : Int) < (body.size : Int)) = true := by simp; omega
  clear hk
  go_enter Try.func14, Try.ntmps14
  go_wp2
  go_ret2
  exact ⟨rfl, bl_alloc (Below.refl _ _) _⟩

set_option maxHeartbeats 800000 in
set_option maxRecDepth 100000 in
theorem fEncode_ok (K : Nat) (body : ByteArray) (hK : 1 ≤ K) (hK2 : K ≤ 255) (hl : body.size ≤ 1048576) :
    Calls Try.prog 10 #[.agg #[.int .i64 K, .string body]] w fun e w' => e = .returned (.tuple #[.string ⟨(encF K body).toArray⟩, .int .i64 0]) ∧ Below w.heap.size w w' := by
  have hd : decide ((K : Int) < 1) = false := by simp; omega
  have hd2 : decide ((255 : Int) < (K : Int)) = false := by simp; omega
  have hd3 : decide ((1048576 : Int) < (body.size : Int)) = false := by simp; omega
  have hw1 : IntKind.u8.wrap (K : Int) = (K : Int) := IntWalk.u8_in _ (by omega)
  have hw2 : IntKind.u32.wrap (body.size : Int) = (body.size : Int) := IntWalk.u32_in _ (by omega)
  have hhl := headF_len K body
  obtain ⟨S, hSd⟩ : ∃ S : ByteArray, S = ⟨(headF K body).toArray⟩ := ⟨_, rfl⟩
  have hSl : S.data.toList = headF K body := by rw [hSd]
  have hSz : S.size = body.size + 5 := by
    have : S.data.toList.length = S.size := by simp
    rw [← this, hSl, hhl]
  have HSM := Lib.hid (fun W => sumOne S (by unfold maxLen; omega) W)
  rw [hSl] at HSM
  have hcl := crc_lt (headF K body)
  have HSD := Lib.hid hSd
  have HHL := Lib.hid hhl
  clear hhl hSd hSl hSz
  go_enter Try.func10, Try.ntmps10
  go_wp2_with (go_at_call 21; refine (new_any _).mono ?_; rintro e w2 ⟨rfl, hw2⟩; have H0 := Lib.hid (wr_box w (.cells #[.int .i64 K, .string body] 25)); rw [← hw2] at H0; have hb2 : Below (w.heap.size + 1) (w.alloc (.cells #[.int .i64 K, .string body] 25)) w2 := (by rw [hw2]; exact Below.alloc (Below.refl _ _) (by simp) _); have hbw : Below w.heap.size w w2 := (by rw [hw2]; exact bl_alloc (bl_alloc (Below.refl _ _) _) _); have HB2 := Lib.hid hbw; have HL2 := Lib.hid (show w.heap.size + 1 ≤ w2.heap.size by rw [hw2]; simp); have c0 : w2.cell? ⟨w.heap.size, 0, none⟩ = some (.int .i64 K) := (hb2.cell (p := ⟨w.heap.size, 0, none⟩) (Nat.lt_succ_self _)).trans (by rw [World.cell?_alloc_mark]; rfl); have c1 : w2.cell? ⟨w.heap.size, 1, none⟩ = some (.string body) := (hb2.cell (p := ⟨w.heap.size, 1, none⟩) (Nat.lt_succ_self _)).trans (by rw [World.cell?_alloc_mark]; rfl); clear hw2 hb2 hbw)
  go_wp2_with (go_at_call 22; refine (wU8_at (w.heap.size + 1) (w.heap.size + 1) _ K rfl w2 _ _ (by omega) H0.out HL2.out (by decide)).mono ?_; rintro e w3 ⟨rfl, hh⟩; obtain ⟨v3, hr3, hm3⟩ := hh; rw [List.nil_append] at hr3; have HR3 := Lib.hid hr3; have hb3 := Moved.below hm3 H0.out HL2.out; have HB3 := Lib.hid hb3; have d0 := (hb3.cell (p := ⟨w.heap.size, 0, none⟩) (Nat.lt_succ_self _)).trans c0; have d1 := (hb3.cell (p := ⟨w.heap.size, 1, none⟩) (Nat.lt_succ_self _)).trans c1; clear hr3 hm3 hb3)
  go_wp2_with (go_at_call 23; refine (wU32_at (w.heap.size + 1) (w.heap.size + 1) _ body.size rfl w3 _ _ (by omega) HR3.out (Nat.le_trans HL2.out HB3.out.size) (by rw [be_length]; decide)).mono ?_; rintro e w4 ⟨rfl, hh⟩; obtain ⟨v4, hr4, hm4⟩ := hh; have HR4 := Lib.hid hr4; have hb4 := HB3.out.trans (Moved.below hm4 HR3.out (Nat.le_trans HL2.out HB3.out.size)); have HB4 := Lib.hid hb4; have e0 := (hb4.cell (p := ⟨w.heap.size, 0, none⟩) (Nat.lt_succ_self _)).trans c0; have e1 := (hb4.cell (p := ⟨w.heap.size, 1, none⟩) (Nat.lt_succ_self _)).trans c1; clear hr4 hm4 hb4)
  go_wp2_with (go_at_call 24; refine (raw_any (w.heap.size + 1) (w.heap.size + 1) body w4 v4 _ HR4.out (Nat.le_trans HL2.out HB4.out.size) (by rw [List.length_append, be_length, be_length]; omega)).mono ?_; rintro e w5 ⟨rfl, hh⟩; obtain ⟨v5, hr5, hm5⟩ := hh; have HR5 := Lib.hid (show IsWr (w.heap.size + 1) w5 (w.heap.size + 1) v5 (headF K body) from hr5); have HB5 := Lib.hid (HB4.out.trans (Moved.below hm5 HR4.out (Nat.le_trans HL2.out HB4.out.size))); clear hr5 hm5 c0 c1 d0 d1 e0 e1)
  go_wp2_with (first
    | (go_at_call 26; (with_reducible refine (bytes_any (w.heap.size + 1) (w.heap.size + 1) w5 v5 _ HR5.out).mono ?_); rintro e w6 ⟨rfl, rfl⟩; rw [← HSD.out])
    | (go_at_call 25; (with_reducible refine (HSM.out w5).mono ?_); rintro e w7 ⟨rfl, hb⟩; have HR7 := Lib.hid (HR5.out.below hb); have HB7 := Lib.hid (HB5.out.trans (hb.mono (Nat.le_trans HL2.out HB5.out.size))); clear hb))
  go_wp2_with (go_at_call 23; refine (wU32_at (w.heap.size + 1) (w.heap.size + 1) _ (crc (headF K body)) rfl w7 _ _ hcl HR7.out (Nat.le_trans HL2.out HB7.out.size) (by have := HHL.out; omega)).mono ?_; rintro e w8 ⟨rfl, hh⟩; obtain ⟨v8, hr8, hm8⟩ := hh; have HR8 := Lib.hid (show IsWr (w.heap.size + 1) w8 (w.heap.size + 1) v8 (encF K body) from hr8); have HB8 := Lib.hid (HB7.out.trans (Moved.below hm8 HR7.out (Nat.le_trans HL2.out HB7.out.size))); clear hr8 hm8)
  go_wp2_with (go_at_call 26; (with_reducible refine (bytes_any (w.heap.size + 1) (w.heap.size + 1) w8 v8 _ HR8.out).mono ?_); rintro e w9 ⟨rfl, rfl⟩)
  go_ret2
  exact ⟨rfl, HB2.out.trans (HB8.out.mono (Nat.le_succ _))⟩

set_option maxHeartbeats 1600000 in
set_option maxRecDepth 100000 in
theorem rEncode_ok (K : Nat) (body : ByteArray) (hK : 1 ≤ K) (hK2 : K ≤ 255) (hl : body.size ≤ 1048576) :
    Calls Try.prog 14 #[.agg #[.int .i64 K, .string body]] w fun e w' => e = .returned (.tuple #[.string ⟨(encF K body).toArray⟩, .int .i64 0]) ∧ Below w.heap.size w w' := by
  have hd : decide ((K : Int) < 1) = false := by simp; omega
  have hd2 : decide ((255 : Int) < (K : Int)) = false := by simp; omega
  have hd3 : decide ((1048576 : Int) < (body.size : Int)) = false := by simp; omega
  have hw1 : IntKind.u64.wrap (K : Int) = (K : Int) := IntWalk.u64_in _ (by omega)
  have hw2 : IntKind.u64.wrap (body.size : Int) = (body.size : Int) := IntWalk.u64_in _ (by omega)
  have N0 := Lib.hid (fun W => refNumber_at (K : Int) K rfl 1 1 rfl (by omega) (by decide) W)
  have N1 := Lib.hid (fun W => refNumber_at (body.size : Int) body.size rfl 4 4 rfl (by omega) (by decide) W)
  have hl1 : (be K 1).length ≤ 1 := by rw [be_length]; decide
  have hl2 : (be body.size 4).length ≤ 4 := by rw [be_length]; decide
  obtain ⟨S, hSd⟩ : ∃ S : ByteArray, S = ⟨(headF K body).toArray⟩ := ⟨_, rfl⟩
  have hSl : S.data.toList = headF K body := by rw [hSd]
  have hSz : S.size ≤ 1048581 := by
    have : S.data.toList.length = S.size := by simp
    rw [← this, hSl, headF_len]
    omega
  have HSM := Lib.hid (fun W => refSumOne S (by unfold maxLen; omega) W)
  rw [hSl] at HSM
  have hcl := crc_lt (headF K body)
  have hl3 : (be (crc (headF K body)) 4).length ≤ 4 := by rw [be_length]; decide
  have N2 := Lib.hid (fun W => refNumber_at ((crc (headF K body) : Nat) : Int) (crc (headF K body)) rfl 4 4 rfl (by omega) (by decide) W)
  have hcat : (ByteArray.mk (be K 1).toArray ++ ByteArray.mk (be body.size 4).toArray) ++ body = S := by
    rw [hSd]
    unfold headF
    refine ba_ext ?_
    simp
  have HF := Lib.hid (show S ++ ByteArray.mk (be (crc (headF K body)) 4).toArray = ⟨(encF K body).toArray⟩ by
    rw [hSd]
    unfold encF
    refine ba_ext ?_
    simp)
  have HCAT := Lib.hid hcat
  have hq1 : ¬ (9223372036854775807 < (be K 1).length + (be body.size 4).length) := by omega
  have hq3 : ¬ (9223372036854775807 < S.size + (be (crc (headF K body)) 4).length) := by omega
  have hq2 : ¬ (9223372036854775807 < (be K 1).length + (be body.size 4).length + body.size) := by omega
  have c0 : (w.alloc (.cells #[.int .i64 K, .string body] 25)).cell? ⟨w.heap.size, 0, none⟩ = some (.int .i64 K) := by rw [World.cell?_alloc_mark]; rfl
  have c1 : (w.alloc (.cells #[.int .i64 K, .string body] 25)).cell? ⟨w.heap.size, 1, none⟩ = some (.string body) := by rw [World.cell?_alloc_mark]; rfl
  have C0 := Lib.hid c0; have C1 := Lib.hid c1
  have HB := Lib.hid (bl_alloc (Below.refl _ w) (.cells #[.int .i64 K, .string body] 25))
  clear hSd hSl c0 c1 hcat
  go_enter Try.func14, Try.ntmps14
  go_wp2
  generalize w.alloc (.cells #[.int .i64 K, .string body] 25) = w1 at *
  go_region_held3 (fun w' => w'.cell? ⟨w.heap.size, 0, none⟩ = some (.int .i64 K) ∧ w'.cell? ⟨w.heap.size, 1, none⟩ = some (.string body))
    (first | exact ⟨x0.out, x1.out⟩ | exact ⟨y0.out, y1.out⟩ | exact ⟨C0.out, C1.out⟩)
    (first
      | (go_at_call 11; (with_reducible refine (N0.out _).mono ?_); rintro e w2 ⟨rfl, hb⟩; have hb1 := (Below.drew (Below.refl _ w1)).trans hb; have HB2 := Lib.hid hb1; have y0 := Lib.hid (bl_cell hb1 C0.out); have y1 := Lib.hid (bl_cell hb1 C1.out); clear hb hb1)
      | (go_at_call 11; (with_reducible refine (N1.out _).mono ?_); rintro e w3 ⟨rfl, hb⟩; have hb1 := HB2.out.trans (hb.mono HB2.out.size); have HB3 := Lib.hid hb1; have x0 := Lib.hid (bl_cell hb1 C0.out); have x1 := Lib.hid (bl_cell hb1 C1.out); clear hb hb1))
  all_goals
    rw [HCAT.out]
    go_wp2_with (first
      | (go_at_call 12; (with_reducible refine (HSM.out w3).mono ?_); rintro e w4 ⟨rfl, hb⟩; have HB4 := Lib.hid (HB3.out.trans (hb.mono HB3.out.size)); clear hb)
      | (go_at_call 11; (with_reducible refine (N2.out _).mono ?_); rintro e w5 ⟨rfl, hb⟩; have HB5 := Lib.hid (HB4.out.trans (hb.mono HB4.out.size)); clear hb))
    go_ret2
    exact ⟨by rw [HF.out]; rfl, bl_trans HB.out HB5.out⟩
theorem fEncode (k : Int) (body : ByteArray) :
    Calls Try.prog 10 #[.agg #[.int .i64 k, .string body]] w fun e w' => e = .returned (.tuple #[.string (frS k body), .int .i64 (frE k body)]) ∧ Below w.heap.size w w' := by
  by_cases hk : k < 1 ∨ 255 < k
  · rw [(fr_kind (body := body) hk).1, (fr_kind (body := body) hk).2]
    exact fEncode_kind w k body hk
  · by_cases hl : 1048576 < body.size
    · rw [(fr_long hk hl).1, (fr_long hk hl).2]
      exact fEncode_long w k body hk hl
    · rw [(fr_fine hk hl).1, (fr_fine hk hl).2]
      obtain ⟨K, rfl⟩ := Int.eq_ofNat_of_zero_le (show 0 ≤ k by omega)
      exact fEncode_ok w K body (by omega) (by omega) (by omega)
theorem rEncode (k : Int) (body : ByteArray) :
    Calls Try.prog 14 #[.agg #[.int .i64 k, .string body]] w fun e w' => e = .returned (.tuple #[.string (frS k body), .int .i64 (frE k body)]) ∧ Below w.heap.size w w' := by
  by_cases hk : k < 1 ∨ 255 < k
  · rw [(fr_kind (body := body) hk).1, (fr_kind (body := body) hk).2]
    exact rEncode_kind w k body hk
  · by_cases hl : 1048576 < body.size
    · rw [(fr_long hk hl).1, (fr_long hk hl).2]
      exact rEncode_long w k body hk hl
    · rw [(fr_fine hk hl).1, (fr_fine hk hl).2]
      obtain ⟨K, rfl⟩ := Int.eq_ofNat_of_zero_le (show 0 ≤ k by omega)
      exact rEncode_ok w K body (by omega) (by omega) (by omega)
end
end Go.Proofs.Ytlnekfdamdfelaa
