/- Walks of layer 2: the readers' texts and ends. -/
import Derived.Test.YtbbcgafkpobndaaRdW6
import Derived.Test.YtbbcgafkpobndaaRdMath3
set_option linter.unusedVariables false
set_option linter.unusedSimpArgs false
namespace Go.Proofs.Ytbbcgafkpobndaa
open Go.RowKit PackMath

theorem rShort_ex (p : Nat) (s : ByteArray) (a e : Nat) (w : World) (x f m g : Nat) (hR : shortR s a e = ((x, f), (m, g))) (h : IsRd TR w p s a e) :
    Calls Try.prog 16 #[.pointer (some ⟨p, 0, none⟩)] w fun r w' => r = .returned (.tuple #[.int .u64 x, .int .i64 f]) ∧ Kept w w' p ∧ IsRd TR w' p s m g := by
  have := rShort p s a e w h
  rw [hR] at this
  exact this
theorem xShort_ex (p : Nat) (s : ByteArray) (a e : Nat) (w : World) (x f m g : Nat) (hR : shortR s a e = ((x, f), (m, g))) (h : IsRd TX w p s a e) :
    Calls Try.prog 42 #[.pointer (some ⟨p, 0, none⟩)] w fun r w' => r = .returned (.tuple #[.int .u64 x, .int .i64 f]) ∧ Kept w w' p ∧ IsRd TX w' p s m g := by
  have := xShort p s a e w h
  rw [hR] at this
  exact this

section
variable (p : Nat) (s : ByteArray) (a e : Nat) (w : World)
theorem rEnd (h : IsRd TR w p s a e) : Calls Try.prog 20 #[.pointer (some ⟨p, 0, none⟩)] w fun r w' => r = .returned (.int .i64 (endR s a e : Nat)) ∧ Kept w w' p ∧ IsRd TR w' p s a (endR s a e) := by
  have HR := Lib.hid h
  have hle := h.le
  clear h
  by_cases hlt : a < s.size
  · have hd : decide ((0 : Int) < (s.size : Int) - (a : Int)) = true := by simp; omega
    have HE : Hid ((if e = 0 then 3 else e) = endR s a e) := Lib.hid (by unfold endR; by_cases he : e = 0 <;> simp [he, hlt])
    go_enter Try.func20, Try.ntmps20
    go_wp2_with (go_at_call 27; refine (rLeft p s a e w HR.out).mono ?_; rintro r w1 ⟨rfl, hk⟩; have HK := Lib.hid hk; clear hk)
    go_wp2_with (go_at_call 38; refine (rFail p s a e w1 3 HK.out.2).mono ?_; rintro r w2 ⟨rfl, hk⟩; rw [HE.out] at *; have HK2 := Lib.hid hk; clear hk)
    go_ret
    exact ⟨rfl, HK.out.1.trans HK2.out.1, HK2.out.2⟩
  · have hd : decide ((0 : Int) < (s.size : Int) - (a : Int)) = false := by simp; omega
    have HE : Hid (endR s a e = e) := Lib.hid (by unfold endR; rw [if_neg (by omega)])
    go_enter Try.func20, Try.ntmps20
    go_wp2_with (go_at_call 27; refine (rLeft p s a e w HR.out).mono ?_; rintro r w1 ⟨rfl, hk⟩; have HK := Lib.hid hk; clear hk)
    go_wp2_with (go_at_call 26; refine (rErr p s a e w1 HK.out.2).mono ?_; rintro r w2 ⟨rfl, rfl⟩)
    go_ret
    rw [HE.out]
    exact ⟨rfl, HK.out.1, HK.out.2⟩

theorem xEnd (h : IsRd TX w p s a e) : Calls Try.prog 21 #[.pointer (some ⟨p, 0, none⟩)] w fun r w' => r = .returned (.int .i64 (endR s a e : Nat)) ∧ Kept w w' p ∧ IsRd TX w' p s a (endR s a e) := by
  have HR := Lib.hid h
  have hle := h.le
  obtain ⟨c0, c1, c2, f0, f1, f2⟩ := h.cells
  clear h
  by_cases he : e = 0
  · subst he
    by_cases hlt : a < s.size
    · have hd : decide ((0 : Int) < (s.size : Int) - (a : Int)) = true := by simp; omega
      have HE : Hid (endR s a 0 = 3) := Lib.hid (by unfold endR; rw [if_pos ⟨rfl, hlt⟩])
      go_enter Try.func21, Try.ntmps21
      go_wp2_with (go_at_call 45; refine (xLeft p s a 0 w HR.out).mono ?_; rintro r w1 ⟨rfl, hk⟩; have HK := Lib.hid hk; clear hk)
      go_wp2_with (go_at_call 46; refine (xFail_at p s a w1 _ 3 rfl HK.out.2).mono ?_; rintro r w2 ⟨rfl, hk⟩; have HK2 := Lib.hid hk; clear hk)
      go_ret
      rw [HE.out]
      exact ⟨rfl, HK.out.1.trans HK2.out.1, HK2.out.2⟩
    · have hd : decide ((0 : Int) < (s.size : Int) - (a : Int)) = false := by simp; omega
      have HE : Hid (endR s a 0 = 0) := Lib.hid (by unfold endR; rw [if_neg (by omega)])
      go_enter Try.func21, Try.ntmps21
      go_wp2_with (go_at_call 45; refine (xLeft p s a 0 w HR.out).mono ?_; rintro r w1 ⟨rfl, hk⟩; have HK := Lib.hid hk; obtain ⟨d0, d1, d2, g0, g1, g2⟩ := hk.2.cells; clear hk)
      go_ret
      rw [HE.out]
      exact ⟨rfl, HK.out.1, HK.out.2⟩
  · have hd : ((e : Int) == 0) = false := by simp; omega
    have HE : Hid (endR s a e = e) := Lib.hid (by unfold endR; rw [if_neg (by omega)])
    have HN := Lib.hid he
    clear he
    go_enter Try.func21, Try.ntmps21
    go_wp2
    go_ret
    rw [HE.out]
    exact ⟨rfl, Kept.refl _ _, HR.out⟩

set_option maxHeartbeats 1600000 in
set_option maxRecDepth 100000 in
theorem rText (n : Int) (h : IsRd TR w p s a e) (hn0 : -9223372036854775808 ≤ n) (hn1 : n < 9223372036854775808) :
    Calls Try.prog 24 #[.pointer (some ⟨p, 0, none⟩), .int .i64 n] w fun r w' => r = .returned (.tuple #[.string (textR s a e n).1.1, .int .i64 (textR s a e n).1.2]) ∧ Kept w w' p ∧ IsRd TR w' p s (textR s a e n).2.1 (textR s a e n).2.2 := by
  obtain ⟨c0, c1, c2, f0, f1, f2⟩ := h.cells
  have hle := h.le
  have hsm := h.small
  have HR := Lib.hid h
  clear h
  obtain ⟨M, hM⟩ : ∃ M : Nat, n.toNat = M := ⟨_, rfl⟩
  have hmx : (if n < (0 : Int) then (0 : Int) else n) = (M : Int) := by split <;> omega
  have hMl : M < 9223372036854775808 := by omega
  have HM := Lib.hid hM
  clear hM
  rcases shortR_any s a e hle with ⟨f, hf, hR⟩ | ⟨x, m, hR, hm, hx⟩
  · have hd : ((f : Int) != 0) = true := by simp; omega
    have HE := Lib.hid (textR_err (most := n) hR hf)
    have HRR := Lib.hid hR
    clear hR hf
    go_enter Try.func24, Try.ntmps24
    go_wp2_with (go_at_call 16; refine (rShort_ex p s a e w _ _ _ _ HRR.out HR.out).mono ?_; rintro r w1 ⟨rfl, hk⟩; have HK := Lib.hid hk; clear hk)
    go_ret2
    rw [HE.out]
    exact ⟨rfl, HK.out⟩
  · obtain ⟨b, hb⟩ : ∃ b, b = a + m := ⟨_, rfl⟩
    rw [← hb] at hR hm
    clear hb
    have HRR := Lib.hid hR
    clear hR
    by_cases h1 : M < x
    · have hd : decide (M < x) = true := by simpa using h1
      have HE := Lib.hid (textR_long HRR.out HM.out h1)
      clear h1
      go_enter Try.func24, Try.ntmps24
      go_wp2_with (go_at_call 16; refine (rShort_ex p s a e w _ _ _ _ HRR.out HR.out).mono ?_; rintro r w1 ⟨rfl, hk⟩; have HK := Lib.hid hk; obtain ⟨d0, d1, d2, g0, g1, g2⟩ := hk.2.cells; clear hk)
      go_wp2_with (go_at_call 38; refine (rFail_at p s a _ _ 5 rfl (HK.out.2.at1 a hle)).mono ?_; rintro r w2 ⟨rfl, hk⟩; have HK2 := Lib.hid hk; clear hk)
      go_ret2
      rw [HE.out]
      exact ⟨rfl, (HK.out.1.trans (Kept.set _ _ _ _)).trans HK2.out.1, HK2.out.2⟩
    · have hd : decide (M < x) = false := by simpa using h1
      have hw1 : IntKind.u64.wrap ((s.size : Int) - (b : Int)) = (s.size : Int) - (b : Int) := IntWalk.u64_in _ (by omega)
      by_cases h2 : s.size - b < x
      · have hd2 : decide ((s.size : Int) - (b : Int) < (x : Int)) = true := by simp; omega
        have HE := Lib.hid (textR_short HRR.out HM.out h1 h2)
        clear h1 h2
        go_enter Try.func24, Try.ntmps24
        go_wp2_with (go_at_call 16; refine (rShort_ex p s a e w _ _ _ _ HRR.out HR.out).mono ?_; rintro r w1 ⟨rfl, hk⟩; have HK := Lib.hid hk; clear hk)
        go_wp2_with (go_at_call 27; refine (rLeft p s b 0 w1 HK.out.2).mono ?_; rintro r w2 ⟨rfl, hk⟩; have HK2 := Lib.hid hk; obtain ⟨d0, d1, d2, g0, g1, g2⟩ := hk.2.cells; clear hk)
        go_wp2_with (go_at_call 38; refine (rFail_at p s a _ _ 2 rfl (HK2.out.2.at1 a hle)).mono ?_; rintro r w3 ⟨rfl, hk⟩; have HK3 := Lib.hid hk; clear hk)
        go_ret2
        rw [HE.out]
        exact ⟨rfl, ((HK.out.1.trans HK2.out.1).trans (Kept.set _ _ _ _)).trans HK3.out.1, HK3.out.2⟩
      · have hd2 : decide ((s.size : Int) - (b : Int) < (x : Int)) = false := by simp; omega
        have HE := Lib.hid (textR_ok HRR.out HM.out h1 h2)
        have hxs : x ≤ s.size := by omega
        have hw2 : IntKind.i64.wrap (x : Int) = (x : Int) := IntWalk.i64_in _ (by omega)
        clear h1 h2
        go_enter Try.func24, Try.ntmps24
        go_wp2_with (go_at_call 16; refine (rShort_ex p s a e w _ _ _ _ HRR.out HR.out).mono ?_; rintro r w1 ⟨rfl, hk⟩; have HK := Lib.hid hk; clear hk)
        go_wp2_with (go_at_call 27; refine (rLeft p s b 0 w1 HK.out.2).mono ?_; rintro r w2 ⟨rfl, hk⟩; have HK2 := Lib.hid hk; obtain ⟨d0, d1, d2, g0, g1, g2⟩ := hk.2.cells; clear hk)
        go_wp2_with (go_at_call 23; refine (rRaw p s b 0 w2 x HK2.out.2 (by omega) (by omega)).mono ?_; rintro r w3 ⟨rfl, hk⟩; have HK3 := Lib.hid hk; clear hk)
        go_ret2
        rw [HE.out]
        exact ⟨rfl, (HK.out.1.trans HK2.out.1).trans HK3.out.1, HK3.out.2⟩

theorem xFail_at2 (j : Int) (k : Nat) (hjk : j = k) (g : Nat) (h : IsRd TX w p s a g) : Calls Try.prog 46 #[.pointer (some ⟨p, 0, none⟩), .int .i64 j] w fun r w' => r = .returned (.int .i64 (k : Nat)) ∧ Kept w w' p ∧ IsRd TX w' p s a k := by
  subst hjk
  exact xFail p s a g w k h
set_option maxHeartbeats 1600000 in
set_option maxRecDepth 100000 in
theorem xText (n : Int) (h : IsRd TX w p s a e) (hn0 : -9223372036854775808 ≤ n) (hn1 : n < 9223372036854775808) :
    Calls Try.prog 44 #[.pointer (some ⟨p, 0, none⟩), .int .i64 n] w fun r w' => r = .returned (.tuple #[.string (textR s a e n).1.1, .int .i64 (textR s a e n).1.2]) ∧ Kept w w' p ∧ IsRd TX w' p s (textR s a e n).2.1 (textR s a e n).2.2 := by
  obtain ⟨c0, c1, c2, f0, f1, f2⟩ := h.cells
  have hle := h.le
  have hsm := h.small
  have HR := Lib.hid h
  clear h
  obtain ⟨M, hM⟩ : ∃ M : Nat, n.toNat = M := ⟨_, rfl⟩
  have hMl : M < 9223372036854775808 := by omega
  have HM := Lib.hid hM
  clear hM
  rcases shortR_any s a e hle with ⟨f, hf, hR⟩ | ⟨x, m, hR, hm, hx⟩
  · have hd : ((f : Int) != 0) = true := by simp; omega
    have HE := Lib.hid (textR_err (most := n) hR hf)
    have HRR := Lib.hid hR
    clear hR hf
    go_enter Try.func44, Try.ntmps44
    go_wp2_with (go_at_call 42; refine (xShort_ex p s a e w _ _ _ _ HRR.out HR.out).mono ?_; rintro r w1 ⟨rfl, hk⟩; have HK := Lib.hid hk; clear hk)
    go_ret2
    rw [HE.out]
    exact ⟨rfl, HK.out⟩
  · obtain ⟨b, hb⟩ : ∃ b, b = a + m := ⟨_, rfl⟩
    rw [← hb] at hR hm
    clear hb
    have HRR := Lib.hid hR
    clear hR
    by_cases hneg : n < 0
    · have hM0 : M = 0 := by have := HM.out; omega
      have hdn : decide (n < 0) = true := by simpa using hneg
      subst hM0
      have HNEG := Lib.hid hneg
      clear hneg
      have hw1 : IntKind.u64.wrap ((s.size : Int) - (b : Int)) = (s.size : Int) - (b : Int) := IntWalk.u64_in _ (by omega)
      by_cases h1 : 0 < x
      · have hd : decide (0 < x) = true := by simpa using h1
        have hdi : decide ((0 : Int) < (x : Int)) = true := by simp; omega
        have HE := Lib.hid (textR_long HRR.out HM.out h1)
        clear h1
        go_enter Try.func44, Try.ntmps44
        go_wp2_with (go_at_call 42; refine (xShort_ex p s a e w _ _ _ _ HRR.out HR.out).mono ?_; rintro r w1 ⟨rfl, hk⟩; have HK := Lib.hid hk; obtain ⟨d0, d1, d2, g0, g1, g2⟩ := hk.2.cells; clear hk)
        go_wp2_with (go_at_call 46; refine (xFail_at2 p s a _ _ 5 rfl 0 (HK.out.2.at1 a hle)).mono ?_; rintro r w2 ⟨rfl, hk⟩; have HK2 := Lib.hid hk; clear hk)
        go_ret2
        rw [HE.out]
        exact ⟨rfl, (HK.out.1.trans (Kept.set _ _ _ _)).trans HK2.out.1, HK2.out.2⟩
      · have hd : decide (0 < x) = false := by simp; omega
        have hdi : decide ((0 : Int) < (x : Int)) = false := by simp; omega
        by_cases h2 : s.size - b < x
        · have hd2 : decide ((s.size : Int) - (b : Int) < (x : Int)) = true := by simp; omega
          have HE := Lib.hid (textR_short HRR.out HM.out h1 h2)
          clear h1 h2
          go_enter Try.func44, Try.ntmps44
          go_wp2_with (go_at_call 42; refine (xShort_ex p s a e w _ _ _ _ HRR.out HR.out).mono ?_; rintro r w1 ⟨rfl, hk⟩; have HK := Lib.hid hk; clear hk)
          go_wp2_with (go_at_call 45; refine (xLeft p s b 0 w1 HK.out.2).mono ?_; rintro r w2 ⟨rfl, hk⟩; have HK2 := Lib.hid hk; obtain ⟨d0, d1, d2, g0, g1, g2⟩ := hk.2.cells; clear hk)
          go_wp2_with (go_at_call 46; refine (xFail_at2 p s a _ _ 2 rfl 0 (HK2.out.2.at1 a hle)).mono ?_; rintro r w3 ⟨rfl, hk⟩; have HK3 := Lib.hid hk; clear hk)
          go_ret2
          rw [HE.out]
          exact ⟨rfl, ((HK.out.1.trans HK2.out.1).trans (Kept.set _ _ _ _)).trans HK3.out.1, HK3.out.2⟩
        · have hd2 : decide ((s.size : Int) - (b : Int) < (x : Int)) = false := by simp; omega
          have HE := Lib.hid (textR_ok HRR.out HM.out h1 h2)
          have hxs : x ≤ s.size := by omega
          have hw2 : IntKind.i64.wrap (x : Int) = (x : Int) := IntWalk.i64_in _ (by omega)
          clear h1 h2
          go_enter Try.func44, Try.ntmps44
          go_wp2_with (go_at_call 42; refine (xShort_ex p s a e w _ _ _ _ HRR.out HR.out).mono ?_; rintro r w1 ⟨rfl, hk⟩; have HK := Lib.hid hk; clear hk)
          go_wp2_with (go_at_call 45; refine (xLeft p s b 0 w1 HK.out.2).mono ?_; rintro r w2 ⟨rfl, hk⟩; have HK2 := Lib.hid hk; obtain ⟨d0, d1, d2, g0, g1, g2⟩ := hk.2.cells; clear hk)
          go_wp2_with (go_at_call 43; refine (xRaw p s b 0 w2 x HK2.out.2 (by omega) (by omega)).mono ?_; rintro r w3 ⟨rfl, hk⟩; have HK3 := Lib.hid hk; clear hk)
          go_ret2
          rw [HE.out]
          exact ⟨rfl, (HK.out.1.trans HK2.out.1).trans HK3.out.1, HK3.out.2⟩
    · have hdn : decide (n < 0) = false := by simpa using hneg
      have hMn : n = (M : Int) := by have := HM.out; omega
      subst hMn
      have hwM : IntKind.u64.wrap (M : Int) = (M : Int) := IntWalk.u64_in _ (by omega)
      have HNEG := Lib.hid hneg
      clear hneg
      have hw1 : IntKind.u64.wrap ((s.size : Int) - (b : Int)) = (s.size : Int) - (b : Int) := IntWalk.u64_in _ (by omega)
      by_cases h1 : M < x
      · have hd : decide (M < x) = true := by simpa using h1
        have hdi : decide ((M : Int) < (x : Int)) = true := by simp; omega
        have HE := Lib.hid (textR_long HRR.out HM.out h1)
        clear h1
        go_enter Try.func44, Try.ntmps44
        go_wp2_with (go_at_call 42; refine (xShort_ex p s a e w _ _ _ _ HRR.out HR.out).mono ?_; rintro r w1 ⟨rfl, hk⟩; have HK := Lib.hid hk; obtain ⟨d0, d1, d2, g0, g1, g2⟩ := hk.2.cells; clear hk)
        go_wp2_with (go_at_call 46; refine (xFail_at2 p s a _ _ 5 rfl 0 (HK.out.2.at1 a hle)).mono ?_; rintro r w2 ⟨rfl, hk⟩; have HK2 := Lib.hid hk; clear hk)
        go_ret2
        rw [HE.out]
        exact ⟨rfl, (HK.out.1.trans (Kept.set _ _ _ _)).trans HK2.out.1, HK2.out.2⟩
      · have hd : decide (M < x) = false := by simp; omega
        have hdi : decide ((M : Int) < (x : Int)) = false := by simp; omega
        by_cases h2 : s.size - b < x
        · have hd2 : decide ((s.size : Int) - (b : Int) < (x : Int)) = true := by simp; omega
          have HE := Lib.hid (textR_short HRR.out HM.out h1 h2)
          clear h1 h2
          go_enter Try.func44, Try.ntmps44
          go_wp2_with (go_at_call 42; refine (xShort_ex p s a e w _ _ _ _ HRR.out HR.out).mono ?_; rintro r w1 ⟨rfl, hk⟩; have HK := Lib.hid hk; clear hk)
          go_wp2_with (go_at_call 45; refine (xLeft p s b 0 w1 HK.out.2).mono ?_; rintro r w2 ⟨rfl, hk⟩; have HK2 := Lib.hid hk; obtain ⟨d0, d1, d2, g0, g1, g2⟩ := hk.2.cells; clear hk)
          go_wp2_with (go_at_call 46; refine (xFail_at2 p s a _ _ 2 rfl 0 (HK2.out.2.at1 a hle)).mono ?_; rintro r w3 ⟨rfl, hk⟩; have HK3 := Lib.hid hk; clear hk)
          go_ret2
          rw [HE.out]
          exact ⟨rfl, ((HK.out.1.trans HK2.out.1).trans (Kept.set _ _ _ _)).trans HK3.out.1, HK3.out.2⟩
        · have hd2 : decide ((s.size : Int) - (b : Int) < (x : Int)) = false := by simp; omega
          have HE := Lib.hid (textR_ok HRR.out HM.out h1 h2)
          have hxs : x ≤ s.size := by omega
          have hw2 : IntKind.i64.wrap (x : Int) = (x : Int) := IntWalk.i64_in _ (by omega)
          clear h1 h2
          go_enter Try.func44, Try.ntmps44
          go_wp2_with (go_at_call 42; refine (xShort_ex p s a e w _ _ _ _ HRR.out HR.out).mono ?_; rintro r w1 ⟨rfl, hk⟩; have HK := Lib.hid hk; clear hk)
          go_wp2_with (go_at_call 45; refine (xLeft p s b 0 w1 HK.out.2).mono ?_; rintro r w2 ⟨rfl, hk⟩; have HK2 := Lib.hid hk; obtain ⟨d0, d1, d2, g0, g1, g2⟩ := hk.2.cells; clear hk)
          go_wp2_with (go_at_call 43; refine (xRaw p s b 0 w2 x HK2.out.2 (by omega) (by omega)).mono ?_; rintro r w3 ⟨rfl, hk⟩; have HK3 := Lib.hid hk; clear hk)
          go_ret2
          rw [HE.out]
          exact ⟨rfl, (HK.out.1.trans HK2.out.1).trans HK3.out.1, HK3.out.2⟩
end
end Go.Proofs.Ytbbcgafkpobndaa
