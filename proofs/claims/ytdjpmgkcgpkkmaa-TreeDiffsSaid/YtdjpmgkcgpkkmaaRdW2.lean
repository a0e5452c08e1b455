/- Walks of layer 2: the two readers: raw bytes. -/
import Derived.Test.YtdjpmgkcgpkkmaaRdW1
set_option linter.unusedVariables false
set_option linter.unusedSimpArgs false
namespace Go.Proofs.Ytdjpmgkcgpkkmaa
open Go.RowKit PackMath

section
variable (p : Nat) (s : ByteArray) (a e : Nat) (w : World)

theorem rFail_at (j : Int) (k : Nat) (hjk : j = k) (h : IsRd TR w p s a 0) : Calls Try.prog 74 #[.pointer (some ⟨p, 0, none⟩), .int .i64 j] w fun r w' => r = .returned (.int .i64 (k : Nat)) ∧ Kept w w' p ∧ IsRd TR w' p s a k := by
  subst hjk
  exact rFail p s a 0 w k h
theorem xFail_at (j : Int) (k : Nat) (hjk : j = k) (h : IsRd TX w p s a 0) : Calls Try.prog 80 #[.pointer (some ⟨p, 0, none⟩), .int .i64 j] w fun r w' => r = .returned (.int .i64 (k : Nat)) ∧ Kept w w' p ∧ IsRd TX w' p s a k := by
  subst hjk
  exact xFail p s a 0 w k h

theorem rRaw (n : Int) (h : IsRd TR w p s a e) (hn0 : -9223372036854775808 ≤ n) (hn1 : n < 9223372036854775808) :
    Calls Try.prog 71 #[.pointer (some ⟨p, 0, none⟩), .int .i64 n] w fun r w' => r = .returned (.tuple #[.string (rawR s a e n).1.1, .int .i64 (rawR s a e n).1.2]) ∧ Kept w w' p ∧ IsRd TR w' p s (rawR s a e n).2.1 (rawR s a e n).2.2 := by
  obtain ⟨c0, c1, c2, f0, f1, f2⟩ := h.cells
  have hle := h.le
  have hsm := h.small
  have HR := Lib.hid h
  clear h
  by_cases he : e = 0
  · subst he
    by_cases hn : n < 0
    · have hd : decide (n < 0) = true := by simpa using hn
      have HN := Lib.hid hn
      clear hn
      go_enter Try.func71, Try.ntmps71
      go_wp2_with (go_at_call 74; refine (rFail_at p s a w _ 1 rfl HR.out).mono ?_; rintro r w1 ⟨rfl, hk⟩; have HK := Lib.hid hk; clear hk)
      go_ret2
      rw [rawR_neg HN.out]
      exact ⟨rfl, HK.out⟩
    · have hd : decide (n < 0) = false := by simpa using hn
      by_cases hg : (s.size : Int) - a < n
      · have hd2 : decide ((s.size : Int) - a < n) = true := by simpa using hg
        have HN := Lib.hid hn; have HG := Lib.hid hg
        clear hn hg
        go_enter Try.func71, Try.ntmps71
        go_wp2_with (go_at_call 73; refine (rLeft p s a 0 w HR.out).mono ?_; rintro r w1 ⟨rfl, hk⟩; have HK := Lib.hid hk; clear hk)
        go_wp2_with (go_at_call 74; refine (rFail_at p s a w1 _ 2 rfl HK.out.2).mono ?_; rintro r w2 ⟨rfl, hk⟩; have HK2 := Lib.hid hk; clear hk)
        go_ret2
        rw [rawR_short (by have := HN.out; omega) (by have := HG.out; omega)]
        exact ⟨rfl, HK.out.1.trans HK2.out.1, HK2.out.2⟩
      · have hd2 : decide ((s.size : Int) - a < n) = false := by simpa using hg
        obtain ⟨m, rfl⟩ : ∃ m : Nat, n = m := ⟨n.toNat, by omega⟩
        have hb : a + m ≤ s.size := by omega
        have HN := Lib.hid hn; have HG := Lib.hid hg
        clear hn hg
        go_enter Try.func71, Try.ntmps71
        go_wp2_with (go_at_call 73; refine (rLeft p s a 0 w HR.out).mono ?_; rintro r w1 ⟨rfl, hk⟩; have HK := Lib.hid hk; obtain ⟨d0, d1, d2, g0, g1, g2⟩ := hk.2.cells; clear hk)
        have ha1 : IntKind.i64.wrap ((a : Int) + m) = (a : Int) + m := IntWalk.i64_in _ (by omega)
        have HB := Lib.hid hb
        go_quiet (fail)
        go_wp2
        go_ret2
        rw [rawR_ok HB.out]
        have HS : IsRd TR (w1.drewN nq) p s a 0 := ⟨HK.out.2.cell, HK.out.2.le, HK.out.2.small⟩
        have HK1 : Kept w (w1.drewN nq) p := HK.out.1.trans ⟨rfl, rfl, rfl, Nat.le_refl _, fun _ _ _ => rfl⟩
        exact ⟨rfl, HK1.trans (Kept.set _ _ _ _), HS.at1 (a + m) HB.out⟩
  · have hd : ((e : Int) != 0) = true := by simp; omega
    have HE := Lib.hid he
    clear he
    go_enter Try.func71, Try.ntmps71
    go_wp2_with (go_at_call 75; refine (rErr p s a e w HR.out).mono ?_; rintro r w1 ⟨rfl, rfl⟩)
    go_ret2
    rw [rawR_err HE.out]
    exact ⟨rfl, Kept.refl _ _, HR.out⟩
theorem xRaw (n : Int) (h : IsRd TX w p s a e) (hn0 : -9223372036854775808 ≤ n) (hn1 : n < 9223372036854775808) :
    Calls Try.prog 65 #[.pointer (some ⟨p, 0, none⟩), .int .i64 n] w fun r w' => r = .returned (.tuple #[.string (rawR s a e n).1.1, .int .i64 (rawR s a e n).1.2]) ∧ Kept w w' p ∧ IsRd TX w' p s (rawR s a e n).2.1 (rawR s a e n).2.2 := by
  obtain ⟨c0, c1, c2, f0, f1, f2⟩ := h.cells
  have hle := h.le
  have hsm := h.small
  have HR := Lib.hid h
  clear h
  by_cases he : e = 0
  · subst he
    by_cases hn : n < 0
    · have hd : decide (n < 0) = true := by simpa using hn
      have HN := Lib.hid hn
      clear hn
      go_enter Try.func65, Try.ntmps65
      go_wp2_with (go_at_call 80; refine (xFail_at p s a w _ 1 rfl HR.out).mono ?_; rintro r w1 ⟨rfl, hk⟩; have HK := Lib.hid hk; clear hk)
      go_ret2
      rw [rawR_neg HN.out]
      exact ⟨rfl, HK.out⟩
    · have hd : decide (n < 0) = false := by simpa using hn
      by_cases hg : (s.size : Int) - a < n
      · have hd2 : decide ((s.size : Int) - a < n) = true := by simpa using hg
        have HN := Lib.hid hn; have HG := Lib.hid hg
        clear hn hg
        go_enter Try.func65, Try.ntmps65
        go_wp2_with (go_at_call 79; refine (xLeft p s a 0 w HR.out).mono ?_; rintro r w1 ⟨rfl, hk⟩; have HK := Lib.hid hk; clear hk)
        go_wp2_with (go_at_call 80; refine (xFail_at p s a w1 _ 2 rfl HK.out.2).mono ?_; rintro r w2 ⟨rfl, hk⟩; have HK2 := Lib.hid hk; clear hk)
        go_ret2
        rw [rawR_short (by have := HN.out; omega) (by have := HG.out; omega)]
        exact ⟨rfl, HK.out.1.trans HK2.out.1, HK2.out.2⟩
      · have hd2 : decide ((s.size : Int) - a < n) = false := by simpa using hg
        obtain ⟨m, rfl⟩ : ∃ m : Nat, n = m := ⟨n.toNat, by omega⟩
        have hb : a + m ≤ s.size := by omega
        have HN := Lib.hid hn; have HG := Lib.hid hg
        clear hn hg
        go_enter Try.func65, Try.ntmps65
        go_wp2_with (go_at_call 79; refine (xLeft p s a 0 w HR.out).mono ?_; rintro r w1 ⟨rfl, hk⟩; have HK := Lib.hid hk; obtain ⟨d0, d1, d2, g0, g1, g2⟩ := hk.2.cells; clear hk)
        have ha1 : IntKind.i64.wrap ((a : Int) + m) = (a : Int) + m := IntWalk.i64_in _ (by omega)
        have HB := Lib.hid hb
        go_quiet (fail)
        go_wp2
        go_ret2
        rw [rawR_ok HB.out]
        have HS : IsRd TX (w1.drewN nq) p s a 0 := ⟨HK.out.2.cell, HK.out.2.le, HK.out.2.small⟩
        have HK1 : Kept w (w1.drewN nq) p := HK.out.1.trans ⟨rfl, rfl, rfl, Nat.le_refl _, fun _ _ _ => rfl⟩
        exact ⟨rfl, HK1.trans (Kept.set _ _ _ _), HS.at1 (a + m) HB.out⟩
  · have hd : ((e : Int) != 0) = true := by simp; omega
    have HE := Lib.hid he
    clear he
    go_enter Try.func65, Try.ntmps65
    go_wp2
    go_quiet (fail)
    go_wp2
    go_ret2
    rw [rawR_err HE.out]
    exact ⟨rfl, ⟨rfl, rfl, rfl, Nat.le_refl _, fun _ _ _ => rfl⟩, HR.out.cell, HR.out.le, HR.out.small⟩
end
end Go.Proofs.Ytdjpmgkcgpkkmaa
