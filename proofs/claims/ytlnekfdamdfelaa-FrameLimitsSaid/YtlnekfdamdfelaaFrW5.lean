/- Walk of the law FrameLimits. -/
import Derived.Test.YtlnekfdamdfelaaFrW4
set_option linter.unusedVariables false
set_option linter.unusedSimpArgs false
namespace Go.Proofs.Ytlnekfdamdfelaa
open Go.RowKit PackMath SumMath FrMath

theorem dec_limit {s : ByteArray} {K : Nat} {body : ByteArray} (hK : 1 ≤ K) (hK2 : K ≤ 255) (hl : 1048576 < body.size) (hl2 : body.size < 4294967296) (h : s.data.toList = encF K body) : decP s = (3, (0, (⟨#[]⟩, 0))) := by
  have e0 : s.data.toList = [] ++ (be K 1 ++ (be body.size 4 ++ (body.data.toList ++ be (crc (headF K body)) 4))) := by
    rw [h, encF]; conv => lhs; lhs; unfold headF
    simp
  have n0 := numR_at e0 (k := 0) rfl (show K < 256 ^ 1 by have : (256 : Nat) ^ 1 = 256 := rfl; omega)
  have n1 := numR_at (s := s) (pre := be K 1) (post := body.data.toList ++ be (crc (headF K body)) 4) (x := body.size) (n := 4) (k := 1) (by rw [e0]; rfl) (be_length _ _) (show body.size < 256 ^ 4 by have : (256 : Nat) ^ 4 = 4294967296 := rfl; omega)
  exact dp_great n0 n1 (by omega) rfl hl
theorem zeros_row (N : Nat) : (madeCells (Value.int .u8 0).cells (N * 1)).toList = bytesOf (List.replicate N 0) := by
  rw [Nat.mul_one]
  refine (toList_madeCells_one _ N).trans ?_
  simp [bytesOf]
theorem zeros_run {w : World} {g N : Nat} {B : ByteArray} (hB : B = ⟨(List.replicate N (0 : UInt8)).toArray⟩) (h : w.ownsRow 0 5 1 (.slice (some ⟨g, 0, none⟩) N N) N (madeCells (Value.int .u8 0).cells (N * 1)).toList) :
    (convert 23 9 (.slice (some ⟨g, 0, none⟩) N N)).run Try.prog w = .ok (.string B) w := by
  rw [zeros_row] at h
  have := run_own_string 0 w (.slice (some ⟨g, 0, none⟩) N N) (List.replicate N 0) (by rw [List.length_replicate]; exact h)
  rw [this, hB]

set_option maxHeartbeats 1600000 in
set_option maxRecDepth 100000 in
theorem flim_zero (w : World) (K m N : Nat) (hK : K = 0) (hK2 : K ≤ 255) (hN : (1048574 : Int) + (m : Int) % 5 = (N : Int)) :
    Calls Try.prog 3 #[.int .u8 K, .int .u8 m] w fun e w' => e = .returned (.bool true) ∧ Below w.heap.size w w' := by
  obtain ⟨i0, hi, hz0, hz1, hz2⟩ := info_parts infoU8
  have hN1 : 1048574 ≤ N := by omega
  have hN2 : N ≤ 1048578 := by omega
  obtain ⟨B, hBd⟩ : ∃ B : ByteArray, B = ⟨(List.replicate N (0 : UInt8)).toArray⟩ := ⟨_, rfl⟩
  have hBs : B.size = N := by rw [hBd]; show (List.replicate N (0 : UInt8)).toArray.size = N; simp
  have HBd := Lib.hid hBd
  have hkd : ((K : Int) == 0) = true := by simp; omega
  have HE := Lib.hid (fun W => fEncode_kind W (K : Int) B (by omega))
  clear hBs hBd hK
  go_enter Try.func3, Try.ntmps3
  go_wp2_with (first
    | (go_at_call 9; refine (fFrames _).mono ?_; rintro e w1 ⟨rfl, hb⟩; have HB1 := Lib.hid hb; clear hb)
    | (refine wpList_make_full _ rfl (.tmp 21) (.tmp 21) 23 rfl 0 5 i0 (.int .u8 0) 1 Try.underlying23 hi hz0 hz1 .i64 .i64 N N N rfl rfl rfl rfl (by rw [hz2]; omega) (by unfold maxLen; omega) (Nat.zero_le _) ?_; intro w2 hown hg2; have hrun := zeros_run HBd.out hown; have HB2 := Lib.hid (bl_trans HB1.out (below_of_grown hg2 (fun g h => by cases h))); clear hown hg2))
  go_wp2_with (go_at_call 10; (with_reducible refine (HE.out _).mono ?_); rintro r w3 ⟨rfl, hb⟩; have HB3 := Lib.hid (bl_trans (bl_alloc HB2.out (.cells #[.int .i64 K, .string B] 25)) hb); have hbx := (Fr.box w2 K B).below hb; have C0 := Lib.hid hbx.c0; have C1 := Lib.hid hbx.c1; clear hb hbx)
  go_ret
  exact ⟨rfl, HB3.out⟩

set_option maxHeartbeats 1600000 in
set_option maxRecDepth 100000 in
theorem flim_great (w : World) (K m N : Nat) (hK : 1 ≤ K) (hK2 : K ≤ 255) (hN : (1048574 : Int) + (m : Int) % 5 = (N : Int)) (hg : 1048576 < N) :
    Calls Try.prog 3 #[.int .u8 K, .int .u8 m] w fun e w' => e = .returned (.bool true) ∧ Below w.heap.size w w' := by
  obtain ⟨i0, hi, hz0, hz1, hz2⟩ := info_parts infoU8
  have hN1 : 1048574 ≤ N := by omega
  have hN2 : N ≤ 1048578 := by omega
  obtain ⟨B, hBd⟩ : ∃ B : ByteArray, B = ⟨(List.replicate N (0 : UInt8)).toArray⟩ := ⟨_, rfl⟩
  have hBs : B.size = N := by rw [hBd]; show (List.replicate N (0 : UInt8)).toArray.size = N; simp
  have HBd := Lib.hid hBd
  have hkd : ((K : Int) == 0) = false := by simp; omega
  have hgd : decide ((1048576 : Int) < (N : Int)) = true := by simp; omega
  have hgdn : decide (1048576 < N) = true := by simp; omega
  have hw1 : IntKind.u64.wrap (K : Int) = (K : Int) := IntWalk.u64_in _ (by omega)
  have hw2 : IntKind.u64.wrap (N : Int) = (N : Int) := IntWalk.u64_in _ (by omega)
  have N0 := Lib.hid (fun W => refNumber_at (K : Int) K rfl 1 1 rfl (by omega) (by decide) W)
  have N1 := Lib.hid (fun W => refNumber_at (N : Int) N rfl 4 4 rfl (by omega) (by decide) W)
  have hl1 : (be K 1).length ≤ 1 := by rw [be_length]; decide
  have hl2 : (be N 4).length ≤ 4 := by rw [be_length]; decide
  obtain ⟨S0, hSd⟩ : ∃ S : ByteArray, S = ⟨(headF K B).toArray⟩ := ⟨_, rfl⟩
  obtain ⟨S, hSe⟩ : ∃ S : ByteArray, S = ⟨(encF K B).toArray⟩ := ⟨_, rfl⟩
  have hSl : S0.data.toList = headF K B := by rw [hSd]
  have hSm : S.data.toList = encF K B := by rw [hSe]
  have hSz : S0.size = N + 5 := by rw [← size_list, hSl, headF_len, hBs]
  have hSy : S.size = N + 9 := by rw [← size_list, hSm, encF_len, hBs]
  have HSM := Lib.hid (fun W => refSumOne S0 (by unfold maxLen; omega) W)
  rw [hSl] at HSM
  have hcl := crc_lt (headF K B)
  have hF : S0 ++ ByteArray.mk (be (crc (headF K B)) 4).toArray = S := by
    rw [hSe, hSd]
    unfold encF
    refine ba_ext ?_
    simp
  have hcat : (ByteArray.mk (be K 1).toArray ++ ByteArray.mk (be N 4).toArray) ++ B = S0 := by
    rw [hSd, ← hBs]
    unfold headF
    refine ba_ext ?_
    simp
  have hl3 : (be (crc (headF K B)) 4).length ≤ 4 := by rw [be_length]; decide
  have N2 := Lib.hid (fun W => refNumber_at ((crc (headF K B) : Nat) : Int) (crc (headF K B)) rfl 4 4 rfl (by omega) (by decide) W)
  have hq3 : ¬ (9223372036854775807 < S0.size + (be (crc (headF K B)) 4).length) := by omega
  have hq1 : ¬ (9223372036854775807 < (be K 1).length + (be N 4).length) := by omega
  have hq2 : ¬ (9223372036854775807 < (be K 1).length + (be N 4).length + B.size) := by omega
  have hD : decP S = (3, (0, (⟨#[]⟩, 0))) := dec_limit hK hK2 (by omega) (by omega) hSm
  have HE := Lib.hid (fun W => fEncode_long W (K : Int) B (by omega) (by omega))
  have HD := Lib.hid (fun W => decF_of hD (show S.size < 281474976710656 by omega) W)
  have HF := Lib.hid hF; have HCAT := Lib.hid hcat
  generalize crc (headF K B) = q at *
  clear hBs hBd hSd hSe hSl hSm hSz hSy hD hg hF hcat
  go_enter Try.func3, Try.ntmps3
  go_wp2_with (first
    | (go_at_call 9; refine (fFrames _).mono ?_; rintro e w1 ⟨rfl, hb⟩; have HB1 := Lib.hid hb; clear hb)
    | (refine wpList_make_full _ rfl (.tmp 21) (.tmp 21) 23 rfl 0 5 i0 (.int .u8 0) 1 Try.underlying23 hi hz0 hz1 .i64 .i64 N N N rfl rfl rfl rfl (by rw [hz2]; omega) (by unfold maxLen; omega) (Nat.zero_le _) ?_; intro w2 hown hg2; have hrun := zeros_run HBd.out hown; have HB2 := Lib.hid (bl_trans HB1.out (below_of_grown hg2 (fun g h => by cases h))); clear hown hg2))
  go_wp2_with (go_at_call 10; (with_reducible refine (HE.out _).mono ?_); rintro r w3 ⟨rfl, hb⟩; have HB3 := Lib.hid (bl_trans (bl_alloc HB2.out (.cells #[.int .i64 K, .string B] 25)) hb); have hbx := (Fr.box w2 K B).below hb; have C0 := Lib.hid hbx.c0; have C1 := Lib.hid hbx.c1; clear hb hbx)
  go_region_held3 (fun w' => w'.cell? ⟨w2.heap.size, 0, none⟩ = some (.int .i64 K) ∧ w'.cell? ⟨w2.heap.size, 1, none⟩ = some (.string B))
    (first | exact ⟨x0.out, x1.out⟩ | exact ⟨y0.out, y1.out⟩ | exact ⟨C0.out, C1.out⟩)
    (first
      | (go_at_call 11; (with_reducible refine (N0.out _).mono ?_); rintro e w4 ⟨rfl, hb⟩; have hb1 := (Below.drew (Below.refl _ w3)).trans hb; have HB4 := Lib.hid hb1; have y0 := Lib.hid (bl_cell hb1 C0.out); have y1 := Lib.hid (bl_cell hb1 C1.out); clear hb hb1)
      | (go_at_call 11; (with_reducible refine (N1.out _).mono ?_); rintro e w5 ⟨rfl, hb⟩; have hb1 := HB4.out.trans (hb.mono HB4.out.size); have HB5 := Lib.hid hb1; have x0 := Lib.hid (bl_cell hb1 C0.out); have x1 := Lib.hid (bl_cell hb1 C1.out); clear hb hb1))
  all_goals
    rw [HCAT.out]
    go_wp2_with (first
      | (go_at_call 12; (with_reducible refine (HSM.out w5).mono ?_); rintro e w6 ⟨rfl, hb⟩; have HB6 := Lib.hid (HB5.out.trans (hb.mono HB5.out.size)); have u0 := Lib.hid (bl_cell (hb) x0.out); have u1 := Lib.hid (bl_cell (hb) x1.out); clear hb)
      | (go_at_call 11; (with_reducible refine (N2.out _).mono ?_); rintro e w7 ⟨rfl, hb⟩; have hF := HF.out; have HB7 := Lib.hid (HB6.out.trans (hb.mono HB6.out.size)); have v0 := Lib.hid (bl_cell hb u0.out); have v1 := Lib.hid (bl_cell hb u1.out); clear hb)
      | (go_at_call 13; (with_reducible refine (HD.out _).mono ?_); rintro e w8 ⟨rfl, hb⟩; have HB8 := Lib.hid (HB7.out.trans (hb.mono HB7.out.size)); have t0 := fun o => bl_cell (bl_alloc (Below.refl _ w8) o) (bl_cell hb v0.out); have t1 := fun o => bl_cell (bl_alloc (Below.refl _ w8) o) (bl_cell hb v1.out); clear hb))
    go_ret
    exact ⟨rfl, bl_alloc (bl_trans HB3.out HB8.out) _⟩

set_option maxHeartbeats 1600000 in
set_option maxRecDepth 100000 in
theorem flim_ok (w : World) (K m N : Nat) (hK : 1 ≤ K) (hK2 : K ≤ 255) (hN : (1048574 : Int) + (m : Int) % 5 = (N : Int)) (hg : ¬ 1048576 < N) :
    Calls Try.prog 3 #[.int .u8 K, .int .u8 m] w fun e w' => e = .returned (.bool true) ∧ Below w.heap.size w w' := by
  obtain ⟨i0, hi, hz0, hz1, hz2⟩ := info_parts infoU8
  have hN1 : 1048574 ≤ N := by omega
  have hN2 : N ≤ 1048578 := by omega
  obtain ⟨B, hBd⟩ : ∃ B : ByteArray, B = ⟨(List.replicate N (0 : UInt8)).toArray⟩ := ⟨_, rfl⟩
  have hBs : B.size = N := by rw [hBd]; show (List.replicate N (0 : UInt8)).toArray.size = N; simp
  have HBd := Lib.hid hBd
  have hkd : ((K : Int) == 0) = false := by simp; omega
  have hgd : decide ((1048576 : Int) < (N : Int)) = false := by simp; omega
  have hgdn : decide (1048576 < N) = false := by simp; omega
  have hw1 : IntKind.u64.wrap (K : Int) = (K : Int) := IntWalk.u64_in _ (by omega)
  have hw2 : IntKind.u64.wrap (N : Int) = (N : Int) := IntWalk.u64_in _ (by omega)
  have N0 := Lib.hid (fun W => refNumber_at (K : Int) K rfl 1 1 rfl (by omega) (by decide) W)
  have N1 := Lib.hid (fun W => refNumber_at (N : Int) N rfl 4 4 rfl (by omega) (by decide) W)
  have hl1 : (be K 1).length ≤ 1 := by rw [be_length]; decide
  have hl2 : (be N 4).length ≤ 4 := by rw [be_length]; decide
  obtain ⟨S0, hSd⟩ : ∃ S : ByteArray, S = ⟨(headF K B).toArray⟩ := ⟨_, rfl⟩
  obtain ⟨S, hSe⟩ : ∃ S : ByteArray, S = ⟨(encF K B).toArray⟩ := ⟨_, rfl⟩
  have hSl : S0.data.toList = headF K B := by rw [hSd]
  have hSm : S.data.toList = encF K B := by rw [hSe]
  have hSz : S0.size = N + 5 := by rw [← size_list, hSl, headF_len, hBs]
  have hSy : S.size = N + 9 := by rw [← size_list, hSm, encF_len, hBs]
  have HSM := Lib.hid (fun W => refSumOne S0 (by unfold maxLen; omega) W)
  rw [hSl] at HSM
  have hcl := crc_lt (headF K B)
  have hF : S0 ++ ByteArray.mk (be (crc (headF K B)) 4).toArray = S := by
    rw [hSe, hSd]
    unfold encF
    refine ba_ext ?_
    simp
  have hcat : (ByteArray.mk (be K 1).toArray ++ ByteArray.mk (be N 4).toArray) ++ B = S0 := by
    rw [hSd, ← hBs]
    unfold headF
    refine ba_ext ?_
    simp
  have hl3 : (be (crc (headF K B)) 4).length ≤ 4 := by rw [be_length]; decide
  have N2 := Lib.hid (fun W => refNumber_at ((crc (headF K B) : Nat) : Int) (crc (headF K B)) rfl 4 4 rfl (by omega) (by decide) W)
  have hq3 : ¬ (9223372036854775807 < S0.size + (be (crc (headF K B)) 4).length) := by omega
  have hq1 : ¬ (9223372036854775807 < (be K 1).length + (be N 4).length) := by omega
  have hq2 : ¬ (9223372036854775807 < (be K 1).length + (be N 4).length + B.size) := by omega
  have hD : decP S = (0, (K, (B, N + 9))) := by
    have := dec_frame (s := S) (K := K) (body := B) (post := []) hK hK2 (by omega) (by rw [hSm]; simp)
    rw [this, hBs]
  rw [← hSy] at hD
  have hsz9 : (S.size : Int) = (N : Int) + 9 := by omega
  have hne : ((S.size : Int) != (N : Int) + 9) = false := by simp; omega
  have HE := Lib.hid (fun W => fEncode_ok W K B hK hK2 (by omega))
  rw [← hSe] at HE
  have HD := Lib.hid (fun W => decF_of hD (show S.size < 281474976710656 by omega) W)
  have HF := Lib.hid hF; have HCAT := Lib.hid hcat
  generalize crc (headF K B) = q at *
  clear hBs hBd hSd hSe hSl hSm hSz hSy hD hg hF hcat hsz9
  go_enter Try.func3, Try.ntmps3
  go_wp2_with (first
    | (go_at_call 9; refine (fFrames _).mono ?_; rintro e w1 ⟨rfl, hb⟩; have HB1 := Lib.hid hb; clear hb)
    | (refine wpList_make_full _ rfl (.tmp 21) (.tmp 21) 23 rfl 0 5 i0 (.int .u8 0) 1 Try.underlying23 hi hz0 hz1 .i64 .i64 N N N rfl rfl rfl rfl (by rw [hz2]; omega) (by unfold maxLen; omega) (Nat.zero_le _) ?_; intro w2 hown hg2; have hrun := zeros_run HBd.out hown; have HB2 := Lib.hid (bl_trans HB1.out (below_of_grown hg2 (fun g h => by cases h))); clear hown hg2))
  go_wp2_with (go_at_call 10; (with_reducible refine (HE.out _).mono ?_); rintro r w3 ⟨rfl, hb⟩; have HB3 := Lib.hid (bl_trans (bl_alloc HB2.out (.cells #[.int .i64 K, .string B] 25)) hb); have hbx := (Fr.box w2 K B).below hb; have C0 := Lib.hid hbx.c0; have C1 := Lib.hid hbx.c1; clear hb hbx)
  go_region_held3 (fun w' => w'.cell? ⟨w2.heap.size, 0, none⟩ = some (.int .i64 K) ∧ w'.cell? ⟨w2.heap.size, 1, none⟩ = some (.string B))
    (first | exact ⟨x0.out, x1.out⟩ | exact ⟨y0.out, y1.out⟩ | exact ⟨C0.out, C1.out⟩)
    (first
      | (go_at_call 11; (with_reducible refine (N0.out _).mono ?_); rintro e w4 ⟨rfl, hb⟩; have hb1 := (Below.drew (Below.refl _ w3)).trans hb; have HB4 := Lib.hid hb1; have y0 := Lib.hid (bl_cell hb1 C0.out); have y1 := Lib.hid (bl_cell hb1 C1.out); clear hb hb1)
      | (go_at_call 11; (with_reducible refine (N1.out _).mono ?_); rintro e w5 ⟨rfl, hb⟩; have hb1 := HB4.out.trans (hb.mono HB4.out.size); have HB5 := Lib.hid hb1; have x0 := Lib.hid (bl_cell hb1 C0.out); have x1 := Lib.hid (bl_cell hb1 C1.out); clear hb hb1))
  all_goals
    rw [HCAT.out]
    go_wp2_with (first
      | (go_at_call 12; (with_reducible refine (HSM.out w5).mono ?_); rintro e w6 ⟨rfl, hb⟩; have HB6 := Lib.hid (HB5.out.trans (hb.mono HB5.out.size)); have u0 := Lib.hid (bl_cell (hb) x0.out); have u1 := Lib.hid (bl_cell (hb) x1.out); clear hb)
      | (go_at_call 11; (with_reducible refine (N2.out _).mono ?_); rintro e w7 ⟨rfl, hb⟩; have hF := HF.out; have HB7 := Lib.hid (HB6.out.trans (hb.mono HB6.out.size)); have v0 := Lib.hid (bl_cell hb u0.out); have v1 := Lib.hid (bl_cell hb u1.out); clear hb)
      | (go_at_call 13; (with_reducible refine (HD.out _).mono ?_); rintro e w8 ⟨rfl, hb⟩; have HB8 := Lib.hid (HB7.out.trans (hb.mono HB7.out.size)); have t0 := fun o => bl_cell (bl_alloc (Below.refl _ w8) o) (bl_cell hb v0.out); have t1 := fun o => bl_cell (bl_alloc (Below.refl _ w8) o) (bl_cell hb v1.out); clear hb))
    go_ret
    exact ⟨rfl, bl_alloc (bl_trans HB3.out HB8.out) _⟩

theorem frameLimits_any (w : World) (K m : Nat) (hK : K ≤ 255) (hm : m ≤ 255) :
    Calls Try.prog 3 #[.int .u8 K, .int .u8 m] w fun e w' => e = .returned (.bool true) ∧ Below w.heap.size w w' := by
  obtain ⟨N, hN⟩ : ∃ N : Nat, (1048574 : Int) + (m : Int) % 5 = (N : Int) := ⟨1048574 + m % 5, by omega⟩
  by_cases h0 : K = 0
  · exact flim_zero w K m N h0 hK hN
  · by_cases hg : 1048576 < N
    · exact flim_great w K m N (by omega) hK hN hg
    · exact flim_ok w K m N (by omega) hK hN hg
end Go.Proofs.Ytlnekfdamdfelaa
