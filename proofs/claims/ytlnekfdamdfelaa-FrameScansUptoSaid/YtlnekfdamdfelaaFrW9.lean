/- Walk of layer 7: what bytes are read as, in the document's answer. -/
import Derived.Test.YtlnekfdamdfelaaFrMath6
import Derived.Test.YtlnekfdamdfelaaFrW6
import Derived.Deep.RegionHeld3
set_option linter.unusedVariables false
set_option linter.unusedSimpArgs false
namespace Go.Proofs.Ytlnekfdamdfelaa
open Go.RowKit PackMath SumMath FrMath

theorem hd_step (s : ByteArray) (k : Nat) (h : 5 ≤ s.size) (hk : k < 4) : num ((s.data.toList.drop 1).take (k + 1)) = num ((s.data.toList.drop 1).take k) * 256 + (s[1 + k]'(by omega)).toNat := by
  have := mid_take s 1 k 4 hk (by omega)
  exact this
theorem refSumDrew (S : ByteArray) (hs : S.size ≤ maxLen) (w : World) :
    Calls Try.prog 12 #[.slice (some ⟨w.heap.size, 0, none⟩) 1 1] ((w.alloc (.cells #[.string S] 9)).drew) fun e w' => e = .returned (.int .u32 (crc S.data.toList)) ∧ Below w.heap.size w w' :=
  (refSumOne S hs w.drew).mono fun e w' ⟨he, hb⟩ => ⟨he, (Below.drew (Below.refl _ w)).trans hb⟩
theorem ba_same {a b : ByteArray} (h : a.toList = b.toList) : a = b := by
  rw [ByteArray.toList_eq, ByteArray.toList_eq] at h
  exact ByteArray.ext (Array.toList_inj.1 h)
theorem hd_lt (s : ByteArray) (k : Nat) (hk : k ≤ 4) : num ((s.data.toList.drop 1).take k) < 4294967296 :=
  Nat.lt_of_lt_of_le (num_lt _) (Nat.le_trans (Nat.pow_le_pow_right (by decide) (show ((s.data.toList.drop 1).take k).length ≤ 4 by rw [List.length_take]; omega)) (by decide))
set_option maxHeartbeats 1000000 in
set_option maxRecDepth 100000 in
theorem xd_none (s : ByteArray) (hs : s.size < 281474976710656) (w : World) (h : s.size < 1) : Calls Try.prog 19 #[.string s] w (DecFSaid s w) := by
  have HF := Lib.hid (dz_none h)
  have d1 : decide ((s.size : Int) < 1) = true := by simp; omega
  clear h
  have HR0 := Lib.hid (FAt.start w)
  go_enter Try.func19, Try.ntmps19
  go_wp2
  refine bodyPost_ret (v := .tuple #[.agg #[.int .i64 0, .string ⟨#[]⟩], .int .i64 0, .int .i64 2]) (by simp [results, Try.results19, go_sem]) rfl ?_
  exact decF_mk HF.out HR0.out.bel
set_option maxHeartbeats 1000000 in
set_option maxRecDepth 100000 in
theorem xd_zero (s : ByteArray) (hs : s.size < 281474976710656) (w : World) (h : 0 < s.size) (hz : s[0].toNat = 0) : Calls Try.prog 19 #[.string s] w (DecFSaid s w) := by
  have HF := Lib.hid (dz_zero h hz)
  have d1 : decide ((s.size : Int) < 1) = false := by simp; omega
  have d2 : ((s[0].toNat : Int) == 0) = true := by rw [hz]; rfl
  have hi0 : (0 : Int) < s.size := by omega
  clear hz
  have HR0 := Lib.hid (FAt.start w)
  go_enter Try.func19, Try.ntmps19
  go_wp2
  refine bodyPost_ret (v := .tuple #[.agg #[.int .i64 0, .string ⟨#[]⟩], .int .i64 0, .int .i64 3]) (by simp [results, Try.results19, go_sem]) rfl ?_
  exact decF_mk HF.out HR0.out.bel
set_option maxHeartbeats 1000000 in
set_option maxRecDepth 100000 in
theorem xd_head (s : ByteArray) (hs : s.size < 281474976710656) (w : World) (h : 0 < s.size) (hz : s[0].toNat ≠ 0) (h5 : s.size < 5) : Calls Try.prog 19 #[.string s] w (DecFSaid s w) := by
  have HF := Lib.hid (dz_head h hz h5)
  have d1 : decide ((s.size : Int) < 1) = false := by simp; omega
  have d2 : ((s[0].toNat : Int) == 0) = false := by simp; omega
  have hi0 : (0 : Int) < s.size := by omega
  have d3 : decide ((s.size : Int) < 5) = true := by simp; omega
  clear hz h5
  have HR0 := Lib.hid (FAt.start w)
  go_enter Try.func19, Try.ntmps19
  go_wp2
  refine bodyPost_ret (v := .tuple #[.agg #[.int .i64 0, .string ⟨#[]⟩], .int .i64 0, .int .i64 2]) (by simp [results, Try.results19, go_sem]) rfl ?_
  exact decF_mk HF.out HR0.out.bel
set_option maxHeartbeats 1000000 in
set_option maxRecDepth 100000 in
theorem xd_great (s : ByteArray) (hs : s.size < 281474976710656) (w : World) (h5 : 5 ≤ s.size) (hz : s[0].toNat ≠ 0) (hn : 1048576 < hd4 s) : Calls Try.prog 19 #[.string s] w (DecFSaid s w) := by
  have HF := Lib.hid (dz_great h5 hz hn)
  have d1 : decide ((s.size : Int) < 1) = false := by simp; omega
  have d2 : ((s[0].toNat : Int) == 0) = false := by simp; omega
  have d3 : decide ((s.size : Int) < 5) = false := by simp; omega
  have hi0 : (0 : Int) < s.size := by omega
  have d4 : decide ((1048576 : Int) < (hd4 s : Int)) = true := by simp; omega
  clear hz
  have HR0 := Lib.hid (FAt.start w)
  go_enter Try.func19, Try.ntmps19
  go_wp2
  go_loop [5, 6] (fun nv i => ∃ k : Nat, k ≤ 4 ∧ i = .int .i64 ((k : Int) + 1) ∧ nv = .int .i64 (num ((s.data.toList.drop 1).take k) : Nat)) (fun _ i => 5 - (intOf i).toNat)
  case atStart => exact ⟨0, by decide, rfl, rfl⟩
  case round =>
    obtain ⟨k, hk, rfl, rfl⟩ := hrel
    have hnl := hd_lt s k hk
    by_cases hlt : k < 4
    · have hdk : decide ((k : Int) + 1 < 5) = true := by simp; omega
      have HST := Lib.hid (hd_step s k (by omega) hlt)
      have hnl2 := hd_lt s (k + 1) hlt
      have hk1 : 1 + k < s.size := by omega
      have hidx := idx_at s 1 k hk1
      have hbl := (s[1 + k]'hk1).toNat_lt
      have hk0 : (0 : Int) ≤ (k : Int) + 1 := by omega
      have hk2 : (k : Int) + 1 < s.size := by omega
      have hcm : (((1 : Nat) : Int) + (k : Int)) = (k : Int) + 1 := by omega
      rw [hcm] at hidx
      clear hcm
      generalize num ((s.data.toList.drop 1).take k) = nn at *
      generalize (s[1 + k]'hk1) = bb at *
      go_wp2
      go_round
      case rel => exact ⟨k + 1, by omega, by go_num, by rw [HST.out]; go_num⟩
      case measure => simp [intOf]; omega
    · have hdk : decide ((k : Int) + 1 < 5) = false := by simp; omega
      obtain rfl : k = 4 := by omega
      have HH := Lib.hid (show num ((s.data.toList.drop 1).take 4) = hd4 s from rfl)
      rw [HH.out] at hnl ⊢
      go_wp2
      refine bodyPost_ret (v := .tuple #[.agg #[.int .i64 0, .string ⟨#[]⟩], .int .i64 0, .int .i64 3]) (by simp [results, Try.results19, go_sem]) rfl ?_
      exact decF_mk HF.out HR0.out.bel
set_option maxHeartbeats 1000000 in
set_option maxRecDepth 100000 in
theorem xd_short (s : ByteArray) (hs : s.size < 281474976710656) (w : World) (h5 : 5 ≤ s.size) (hz : s[0].toNat ≠ 0) (hn : ¬ 1048576 < hd4 s) (hsz : s.size < hd4 s + 9) : Calls Try.prog 19 #[.string s] w (DecFSaid s w) := by
  have HF := Lib.hid (dz_short h5 hz hn hsz)
  have d1 : decide ((s.size : Int) < 1) = false := by simp; omega
  have d2 : ((s[0].toNat : Int) == 0) = false := by simp; omega
  have d3 : decide ((s.size : Int) < 5) = false := by simp; omega
  have hi0 : (0 : Int) < s.size := by omega
  have d4 : decide ((1048576 : Int) < (hd4 s : Int)) = false := by simp; omega
  have d5 : decide ((s.size : Int) < (hd4 s : Int) + 9) = true := by simp; omega
  clear hz
  have HR0 := Lib.hid (FAt.start w)
  go_enter Try.func19, Try.ntmps19
  go_wp2
  go_loop [5, 6] (fun nv i => ∃ k : Nat, k ≤ 4 ∧ i = .int .i64 ((k : Int) + 1) ∧ nv = .int .i64 (num ((s.data.toList.drop 1).take k) : Nat)) (fun _ i => 5 - (intOf i).toNat)
  case atStart => exact ⟨0, by decide, rfl, rfl⟩
  case round =>
    obtain ⟨k, hk, rfl, rfl⟩ := hrel
    have hnl := hd_lt s k hk
    by_cases hlt : k < 4
    · have hdk : decide ((k : Int) + 1 < 5) = true := by simp; omega
      have HST := Lib.hid (hd_step s k (by omega) hlt)
      have hnl2 := hd_lt s (k + 1) hlt
      have hk1 : 1 + k < s.size := by omega
      have hidx := idx_at s 1 k hk1
      have hbl := (s[1 + k]'hk1).toNat_lt
      have hk0 : (0 : Int) ≤ (k : Int) + 1 := by omega
      have hk2 : (k : Int) + 1 < s.size := by omega
      have hcm : (((1 : Nat) : Int) + (k : Int)) = (k : Int) + 1 := by omega
      rw [hcm] at hidx
      clear hcm
      generalize num ((s.data.toList.drop 1).take k) = nn at *
      generalize (s[1 + k]'hk1) = bb at *
      go_wp2
      go_round
      case rel => exact ⟨k + 1, by omega, by go_num, by rw [HST.out]; go_num⟩
      case measure => simp [intOf]; omega
    · have hdk : decide ((k : Int) + 1 < 5) = false := by simp; omega
      obtain rfl : k = 4 := by omega
      have HH := Lib.hid (show num ((s.data.toList.drop 1).take 4) = hd4 s from rfl)
      rw [HH.out] at hnl ⊢
      go_wp2
      refine bodyPost_ret (v := .tuple #[.agg #[.int .i64 0, .string ⟨#[]⟩], .int .i64 0, .int .i64 2]) (by simp [results, Try.results19, go_sem]) rfl ?_
      exact decF_mk HF.out HR0.out.bel
set_option maxHeartbeats 1000000 in
set_option maxRecDepth 100000 in
theorem xd_sum (s : ByteArray) (hs : s.size < 281474976710656) (w : World) (h5 : 5 ≤ s.size) (hz : s[0].toNat ≠ 0) (hn : ¬ 1048576 < hd4 s) (hsz : ¬ s.size < hd4 s + 9) (he : s.extract (hd4 s + 5) (hd4 s + 9) ≠ ⟨(be (crc (s.extract 0 (hd4 s + 5)).data.toList) 4).toArray⟩) : Calls Try.prog 19 #[.string s] w (DecFSaid s w) := by
  have HF := Lib.hid (dz_sum h5 hz hn hsz he)
  have hcmp : ((s.extract (hd4 s + 5) (hd4 s + 9)).toList == be (crc (s.extract 0 (hd4 s + 5)).data.toList) 4) = false := by rw [beq_eq_false_iff_ne]; exact fun e => he (ba_same (e.trans (by rw [ByteArray.toList_eq])))
  have hcmp2 : (!(s.extract (hd4 s + 5) (hd4 s + 9)).toList == be (crc (s.extract 0 (hd4 s + 5)).data.toList) 4) = true := by rw [hcmp]; rfl
  clear he
  have d1 : decide ((s.size : Int) < 1) = false := by simp; omega
  have d2 : ((s[0].toNat : Int) == 0) = false := by simp; omega
  have d3 : decide ((s.size : Int) < 5) = false := by simp; omega
  have hi0 : (0 : Int) < s.size := by omega
  have hz8 : wrap64 (s[0].toNat : Int) = (s[0].toNat : Int) := by have := s[0].toNat_lt; unfold wrap64; omega
  have d4 : decide ((1048576 : Int) < (hd4 s : Int)) = false := by simp; omega
  have d5 : decide ((s.size : Int) < (hd4 s : Int) + 9) = false := by simp; omega
  have hcl := crc_lt (s.extract 0 (hd4 s + 5)).data.toList
  have HSM := Lib.hid (fun W => refSumOne (s.extract 0 (hd4 s + 5)) (by rw [ByteArray.size_extract]; unfold maxLen; omega) W)
  have HSD := Lib.hid (fun W => refSumDrew (s.extract 0 (hd4 s + 5)) (by rw [ByteArray.size_extract]; unfold maxLen; omega) W)
  have N1 := Lib.hid (fun W => refNumber_at ((crc (s.extract 0 (hd4 s + 5)).data.toList : Nat) : Int) _ rfl 4 4 rfl (Nat.lt_trans hcl (by decide)) (by decide) W)
  have hw5 : IntKind.i64.wrap ((hd4 s : Int) + 5) = (hd4 s : Int) + 5 := IntWalk.i64_in _ (by omega)
  have hw9 : IntKind.i64.wrap ((hd4 s : Int) + 9) = (hd4 s : Int) + 9 := IntWalk.i64_in _ (by omega)
  have h50 : (0 : Int) ≤ (hd4 s : Int) + 5 := by omega
  have h90 : (0 : Int) ≤ (hd4 s : Int) + 9 := by omega
  have h59 : (hd4 s : Int) + 5 ≤ (hd4 s : Int) + 9 := by omega
  have h5s : (hd4 s : Int) + 5 ≤ s.size := by omega
  have h9s : (hd4 s : Int) + 9 ≤ s.size := by omega
  have h55 : (5 : Int) ≤ (hd4 s : Int) + 5 := by omega
  have t5 : ((hd4 s : Int) + 5).toNat = hd4 s + 5 := by omega
  have t9 : ((hd4 s : Int) + 9).toNat = hd4 s + 9 := by omega
  clear hz
  have HR0 := Lib.hid (FAt.start w)
  go_enter Try.func19, Try.ntmps19
  go_wp2
  go_loop [5, 6] (fun nv i => ∃ k : Nat, k ≤ 4 ∧ i = .int .i64 ((k : Int) + 1) ∧ nv = .int .i64 (num ((s.data.toList.drop 1).take k) : Nat)) (fun _ i => 5 - (intOf i).toNat)
  case atStart => exact ⟨0, by decide, rfl, rfl⟩
  case round =>
    obtain ⟨k, hk, rfl, rfl⟩ := hrel
    have hnl := hd_lt s k hk
    by_cases hlt : k < 4
    · have hdk : decide ((k : Int) + 1 < 5) = true := by simp; omega
      have HST := Lib.hid (hd_step s k (by omega) hlt)
      have hnl2 := hd_lt s (k + 1) hlt
      have hk1 : 1 + k < s.size := by omega
      have hidx := idx_at s 1 k hk1
      have hbl := (s[1 + k]'hk1).toNat_lt
      have hk0 : (0 : Int) ≤ (k : Int) + 1 := by omega
      have hk2 : (k : Int) + 1 < s.size := by omega
      have hcm : (((1 : Nat) : Int) + (k : Int)) = (k : Int) + 1 := by omega
      rw [hcm] at hidx
      clear hcm
      generalize num ((s.data.toList.drop 1).take k) = nn at *
      generalize (s[1 + k]'hk1) = bb at *
      go_wp2
      go_round
      case rel => exact ⟨k + 1, by omega, by go_num, by rw [HST.out]; go_num⟩
      case measure => simp [intOf]; omega
    · have hdk : decide ((k : Int) + 1 < 5) = false := by simp; omega
      obtain rfl : k = 4 := by omega
      have HH := Lib.hid (show num ((s.data.toList.drop 1).take 4) = hd4 s from rfl)
      rw [HH.out] at hnl ⊢
      generalize crc (s.extract 0 (hd4 s + 5)).data.toList = cc at *
      have hcw : IntKind.u64.wrap (cc : Int) = (cc : Int) := IntWalk.u64_in _ (by omega)
      go_wp2
      have HB0 := Lib.hid HR0.out.bel
      generalize w.alloc (.cells #[.int .i64 0, .string ⟨#[]⟩] 25) = w0 at *
      go_region_held3 (fun _ => True) (trivial)
        (first
          | (go_at_call 12; (with_reducible refine (HSD.out w0).mono ?_); rintro r w2 ⟨rfl, hb⟩; have HB2 := Lib.hid hb; clear hb)
          | (go_at_call 12; (with_reducible refine (HSM.out _).mono ?_); rintro r w2 ⟨rfl, hb⟩; have HB2 := Lib.hid ((Below.drew (Below.refl _ w0)).trans hb); clear hb)
          | (go_at_call 11; (with_reducible refine (N1.out _).mono ?_); rintro r w3 ⟨rfl, hb⟩; have hb3 := HB2.out.trans (hb.mono HB2.out.size); have HR3 := Lib.hid (HR0.out.below hb3); obtain ⟨r0, r1, q0, q1⟩ := (HR0.out.below hb3).cells; clear hb hb3))
      go_wp2
      obtain ⟨z0, z1, hbz⟩ := FAt.done (k := 0) (b := ⟨#[]⟩) HR3.out
      refine bodyPost_ret (v := .tuple #[.agg #[.int .i64 0, .string ⟨#[]⟩], .int .i64 0, .int .i64 4]) (by simp [results, Try.results19, go_sem, z0, z1]) rfl ?_
      exact decF_mk HF.out hbz
set_option maxHeartbeats 1000000 in
set_option maxRecDepth 100000 in
theorem xd_ok (s : ByteArray) (hs : s.size < 281474976710656) (w : World) (h5 : 5 ≤ s.size) (hz : s[0].toNat ≠ 0) (hn : ¬ 1048576 < hd4 s) (hsz : ¬ s.size < hd4 s + 9) (he : s.extract (hd4 s + 5) (hd4 s + 9) = ⟨(be (crc (s.extract 0 (hd4 s + 5)).data.toList) 4).toArray⟩) : Calls Try.prog 19 #[.string s] w (DecFSaid s w) := by
  have HF := Lib.hid (dz_ok h5 hz hn hsz he)
  have hcmp : ((s.extract (hd4 s + 5) (hd4 s + 9)).toList == be (crc (s.extract 0 (hd4 s + 5)).data.toList) 4) = true := by rw [he, ByteArray.toList_eq]; simp
  have hcmp2 : (!(s.extract (hd4 s + 5) (hd4 s + 9)).toList == be (crc (s.extract 0 (hd4 s + 5)).data.toList) 4) = false := by rw [hcmp]; rfl
  clear he
  have d1 : decide ((s.size : Int) < 1) = false := by simp; omega
  have d2 : ((s[0].toNat : Int) == 0) = false := by simp; omega
  have d3 : decide ((s.size : Int) < 5) = false := by simp; omega
  have hi0 : (0 : Int) < s.size := by omega
  have hz8 : wrap64 (s[0].toNat : Int) = (s[0].toNat : Int) := by have := s[0].toNat_lt; unfold wrap64; omega
  have d4 : decide ((1048576 : Int) < (hd4 s : Int)) = false := by simp; omega
  have d5 : decide ((s.size : Int) < (hd4 s : Int) + 9) = false := by simp; omega
  have hcl := crc_lt (s.extract 0 (hd4 s + 5)).data.toList
  have HSM := Lib.hid (fun W => refSumOne (s.extract 0 (hd4 s + 5)) (by rw [ByteArray.size_extract]; unfold maxLen; omega) W)
  have HSD := Lib.hid (fun W => refSumDrew (s.extract 0 (hd4 s + 5)) (by rw [ByteArray.size_extract]; unfold maxLen; omega) W)
  have N1 := Lib.hid (fun W => refNumber_at ((crc (s.extract 0 (hd4 s + 5)).data.toList : Nat) : Int) _ rfl 4 4 rfl (Nat.lt_trans hcl (by decide)) (by decide) W)
  have hw5 : IntKind.i64.wrap ((hd4 s : Int) + 5) = (hd4 s : Int) + 5 := IntWalk.i64_in _ (by omega)
  have hw9 : IntKind.i64.wrap ((hd4 s : Int) + 9) = (hd4 s : Int) + 9 := IntWalk.i64_in _ (by omega)
  have h50 : (0 : Int) ≤ (hd4 s : Int) + 5 := by omega
  have h90 : (0 : Int) ≤ (hd4 s : Int) + 9 := by omega
  have h59 : (hd4 s : Int) + 5 ≤ (hd4 s : Int) + 9 := by omega
  have h5s : (hd4 s : Int) + 5 ≤ s.size := by omega
  have h9s : (hd4 s : Int) + 9 ≤ s.size := by omega
  have h55 : (5 : Int) ≤ (hd4 s : Int) + 5 := by omega
  have t5 : ((hd4 s : Int) + 5).toNat = hd4 s + 5 := by omega
  have t9 : ((hd4 s : Int) + 9).toNat = hd4 s + 9 := by omega
  clear hz
  have HR0 := Lib.hid (FAt.start w)
  go_enter Try.func19, Try.ntmps19
  go_wp2
  go_loop [5, 6] (fun nv i => ∃ k : Nat, k ≤ 4 ∧ i = .int .i64 ((k : Int) + 1) ∧ nv = .int .i64 (num ((s.data.toList.drop 1).take k) : Nat)) (fun _ i => 5 - (intOf i).toNat)
  case atStart => exact ⟨0, by decide, rfl, rfl⟩
  case round =>
    obtain ⟨k, hk, rfl, rfl⟩ := hrel
    have hnl := hd_lt s k hk
    by_cases hlt : k < 4
    · have hdk : decide ((k : Int) + 1 < 5) = true := by simp; omega
      have HST := Lib.hid (hd_step s k (by omega) hlt)
      have hnl2 := hd_lt s (k + 1) hlt
      have hk1 : 1 + k < s.size := by omega
      have hidx := idx_at s 1 k hk1
      have hbl := (s[1 + k]'hk1).toNat_lt
      have hk0 : (0 : Int) ≤ (k : Int) + 1 := by omega
      have hk2 : (k : Int) + 1 < s.size := by omega
      have hcm : (((1 : Nat) : Int) + (k : Int)) = (k : Int) + 1 := by omega
      rw [hcm] at hidx
      clear hcm
      generalize num ((s.data.toList.drop 1).take k) = nn at *
      generalize (s[1 + k]'hk1) = bb at *
      go_wp2
      go_round
      case rel => exact ⟨k + 1, by omega, by go_num, by rw [HST.out]; go_num⟩
      case measure => simp [intOf]; omega
    · have hdk : decide ((k : Int) + 1 < 5) = false := by simp; omega
      obtain rfl : k = 4 := by omega
      have HH := Lib.hid (show num ((s.data.toList.drop 1).take 4) = hd4 s from rfl)
      rw [HH.out] at hnl ⊢
      generalize crc (s.extract 0 (hd4 s + 5)).data.toList = cc at *
      have hcw : IntKind.u64.wrap (cc : Int) = (cc : Int) := IntWalk.u64_in _ (by omega)
      go_wp2
      have HB0 := Lib.hid HR0.out.bel
      generalize w.alloc (.cells #[.int .i64 0, .string ⟨#[]⟩] 25) = w0 at *
      go_region_held3 (fun _ => True) (trivial)
        (first
          | (go_at_call 12; (with_reducible refine (HSD.out w0).mono ?_); rintro r w2 ⟨rfl, hb⟩; have HB2 := Lib.hid hb; clear hb)
          | (go_at_call 12; (with_reducible refine (HSM.out _).mono ?_); rintro r w2 ⟨rfl, hb⟩; have HB2 := Lib.hid ((Below.drew (Below.refl _ w0)).trans hb); clear hb)
          | (go_at_call 11; (with_reducible refine (N1.out _).mono ?_); rintro r w3 ⟨rfl, hb⟩; have hb3 := HB2.out.trans (hb.mono HB2.out.size); have HR3 := Lib.hid (HR0.out.below hb3); obtain ⟨r0, r1, q0, q1⟩ := (HR0.out.below hb3).cells; clear hb hb3))
      go_wp2
      go_region
      all_goals
        obtain ⟨z0, z1, hbz⟩ := FAt.done (k := (s[0].toNat : Nat)) (b := s.extract 5 (hd4 s + 5)) HR3.out
        go_wp2
        refine bodyPost_ret (v := .tuple #[.agg #[.int .i64 (s[0].toNat : Nat), .string (s.extract 5 (hd4 s + 5))], .int .i64 ((hd4 s + 9 : Nat) : Int), .int .i64 0]) (by simp [results, Try.results19, go_sem, z0, z1, hz8]) rfl ?_
        exact decF_mk HF.out (hbz.drew)
/-- The document's Decode answers what decP says. -/
theorem xDecode (s : ByteArray) (hs : s.size < 281474976710656) (w : World) : Calls Try.prog 19 #[.string s] w (DecFSaid s w) := by
  by_cases h1 : s.size < 1
  · exact xd_none s hs w h1
  have h : 0 < s.size := by omega
  by_cases hz : s[0].toNat = 0
  · exact xd_zero s hs w h hz
  by_cases h5 : s.size < 5
  · exact xd_head s hs w h hz h5
  by_cases hn : 1048576 < hd4 s
  · exact xd_great s hs w (by omega) hz hn
  by_cases hsz : s.size < hd4 s + 9
  · exact xd_short s hs w (by omega) hz hn hsz
  by_cases he : s.extract (hd4 s + 5) (hd4 s + 9) = ⟨(be (crc (s.extract 0 (hd4 s + 5)).data.toList) 4).toArray⟩
  · exact xd_ok s hs w (by omega) hz hn hsz he
  · exact xd_sum s hs w (by omega) hz hn hsz he
end Go.Proofs.Ytlnekfdamdfelaa
