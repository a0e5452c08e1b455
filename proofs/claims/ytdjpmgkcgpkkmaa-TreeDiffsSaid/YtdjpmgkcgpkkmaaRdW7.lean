/- Walks of layer 2: the readers' texts and ends. -/
import Derived.Test.YtdjpmgkcgpkkmaaRdW6
import Derived.Test.YtdjpmgkcgpkkmaaRdMath3
set_option linter.unusedVariables false
set_option linter.unusedSimpArgs false
namespace Go.Proofs.Ytdjpmgkcgpkkmaa
open Go.RowKit PackMath

section
variable (p : Nat) (s : ByteArray) (a e : Nat) (w : World)
theorem rEnd (h : IsRd TR w p s a e) : Calls Try.prog 57 #[.pointer (some ⟨p, 0, none⟩)] w fun r w' => r = .returned (.int .i64 (endR s a e : Nat)) ∧ Kept w w' p ∧ IsRd TR w' p s a (endR s a e) := by
  have HR := Lib.hid h
  have hle := h.le
  clear h
  by_cases hlt : a < s.size
  · have hd : decide ((0 : Int) < (s.size : Int) - (a : Int)) = true := by simp; omega
    have HE : Hid ((if e = 0 then 3 else e) = endR s a e) := Lib.hid (by unfold endR; by_cases he : e = 0 <;> simp [he, hlt])
    go_enter Try.func57, Try.ntmps57
    go_wp2_with (go_at_call 73; refine (rLeft p s a e w HR.out).mono ?_; rintro r w1 ⟨rfl, hk⟩; have HK := Lib.hid hk; clear hk)
    go_wp2_with (go_at_call 74; refine (rFail p s a e w1 3 HK.out.2).mono ?_; rintro r w2 ⟨rfl, hk⟩; rw [HE.out] at *; have HK2 := Lib.hid hk; clear hk)
    go_ret
    exact ⟨rfl, HK.out.1.trans HK2.out.1, HK2.out.2⟩
  · have hd : decide ((0 : Int) < (s.size : Int) - (a : Int)) = false := by simp; omega
    have HE : Hid (endR s a e = e) := Lib.hid (by unfold endR; rw [if_neg (by omega)])
    go_enter Try.func57, Try.ntmps57
    go_wp2_with (go_at_call 73; refine (rLeft p s a e w HR.out).mono ?_; rintro r w1 ⟨rfl, hk⟩; have HK := Lib.hid hk; clear hk)
    go_wp2_with (go_at_call 75; refine (rErr p s a e w1 HK.out.2).mono ?_; rintro r w2 ⟨rfl, rfl⟩)
    go_ret
    rw [HE.out]
    exact ⟨rfl, HK.out.1, HK.out.2⟩

theorem xEnd (h : IsRd TX w p s a e) : Calls Try.prog 66 #[.pointer (some ⟨p, 0, none⟩)] w fun r w' => r = .returned (.int .i64 (endR s a e : Nat)) ∧ Kept w w' p ∧ IsRd TX w' p s a (endR s a e) := by
  have HR := Lib.hid h
  have hle := h.le
  obtain ⟨c0, c1, c2, f0, f1, f2⟩ := h.cells
  clear h
  by_cases he : e = 0
  · subst he
    by_cases hlt : a < s.size
    · have hd : decide ((0 : Int) < (s.size : Int) - (a : Int)) = true := by simp; omega
      have HE : Hid (endR s a 0 = 3) := Lib.hid (by unfold endR; rw [if_pos ⟨rfl, hlt⟩])
      go_enter Try.func66, Try.ntmps66
      go_wp2_with (go_at_call 79; refine (xLeft p s a 0 w HR.out).mono ?_; rintro r w1 ⟨rfl, hk⟩; have HK := Lib.hid hk; clear hk)
      go_wp2_with (go_at_call 80; refine (xFail_at p s a w1 _ 3 rfl HK.out.2).mono ?_; rintro r w2 ⟨rfl, hk⟩; have HK2 := Lib.hid hk; clear hk)
      go_ret
      rw [HE.out]
      exact ⟨rfl, HK.out.1.trans HK2.out.1, HK2.out.2⟩
    · have hd : decide ((0 : Int) < (s.size : Int) - (a : Int)) = false := by simp; omega
      have HE : Hid (endR s a 0 = 0) := Lib.hid (by unfold endR; rw [if_neg (by omega)])
      go_enter Try.func66, Try.ntmps66
      go_wp2_with (go_at_call 79; refine (xLeft p s a 0 w HR.out).mono ?_; rintro r w1 ⟨rfl, hk⟩; have HK := Lib.hid hk; obtain ⟨d0, d1, d2, g0, g1, g2⟩ := hk.2.cells; clear hk)
      go_ret
      rw [HE.out]
      exact ⟨rfl, HK.out.1, HK.out.2⟩
  · have hd : ((e : Int) == 0) = false := by simp; omega
    have HE : Hid (endR s a e = e) := Lib.hid (by unfold endR; rw [if_neg (by omega)])
    have HN := Lib.hid he
    clear he
    go_enter Try.func66, Try.ntmps66
    go_wp2
    go_ret
    rw [HE.out]
    exact ⟨rfl, Kept.refl _ _, HR.out⟩

theorem xFail_at2 (j : Int) (k : Nat) (hjk : j = k) (g : Nat) (h : IsRd TX w p s a g) : Calls Try.prog 80 #[.pointer (some ⟨p, 0, none⟩), .int .i64 j] w fun r w' => r = .returned (.int .i64 (k : Nat)) ∧ Kept w w' p ∧ IsRd TX w' p s a k := by
  subst hjk
  exact xFail p s a g w k h
end
end Go.Proofs.Ytdjpmgkcgpkkmaa
