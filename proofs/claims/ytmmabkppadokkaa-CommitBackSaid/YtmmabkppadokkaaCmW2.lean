/- Walks of layer 9: the document's answer on what is wrong with a commit. -/
import Derived.Test.YtmmabkppadokkaaCmW1
set_option linter.unusedVariables false
set_option linter.unusedSimpArgs false
namespace Go.Proofs.Ytmmabkppadokkaa
open Go.RowKit PackMath

theorem bl_drewN {B : Nat} {a w : World} (h : Below B a w) (n : Nat) : Below B a (w.drewN n) := ⟨h.os, h.tape, h.output, h.size, h.block⟩
section
variable (w : World)
theorem memB_step_no {x y : Int} {zs : List Int} {n : Nat} (ht : zs.take (n + 1) = zs.take n ++ [y]) (h : x ∉ zs.take n) (he : y ≠ x) : x ∉ zs.take (n + 1) := by
  rw [ht]; simpa using ⟨h, fun e => he e.symm⟩

set_option maxHeartbeats 1600000 in
theorem dCheck (t : Int) (zs : List Int) (a : Option Addr) (cap : Nat) (hc : zs.length ≤ cap) (hl : cap ≤ maxLen) (h : IntsAt w .i64 a zs) :
    Calls Try.prog 12 #[.agg #[.slice a zs.length cap, .int .i64 t]] w fun e w' => e = .returned (.int .i64 (checkR t zs)) ∧ Below w.heap.size w w' := by
  unfold maxLen at hl
  have HI := Lib.hid (h.below (bl_alloc (Below.refl _ w) (.cells #[.slice a zs.length cap, .int .i64 t] 24)) (Nat.le_refl _))
  have HB := Lib.hid (bl_alloc (Below.refl _ w) (.cells #[.slice a zs.length cap, .int .i64 t] 24))
  clear h
  by_cases h16 : 16 < zs.length
  · have hd : decide (16 < zs.length) = true := by simpa using h16
    have hdi : decide ((16 : Int) < (zs.length : Int)) = true := by simp; omega
    have HR := Lib.hid (check_long (t := t) h16)
    clear h16
    go_enter Try.func12, Try.ntmps12
    go_wp2
    go_ret
    exact ⟨ret_int (by rw [HR.out]; rfl), HB.out⟩
  · have hd : decide (16 < zs.length) = false := by simpa using h16
    have hdi : decide ((16 : Int) < (zs.length : Int)) = false := by simp; omega
    by_cases hi : inn t = true
    · have HR := Lib.hid (check_go h16 hi)
      clear h16
      go_enter Try.func12, Try.ntmps12
      go_wp2_with (go_at_call 25; refine (dIn _ t).mono ?_; rintro e w1 ⟨rfl, rfl⟩)
      go_loopw [3] (fun i wr => ∃ k n : Nat, k ≤ zs.length ∧ i = .int .i64 k ∧ chkGo (zs.take k) (zs.drop k) = chkGo [] zs ∧ wr = (w.alloc (.cells #[.slice a zs.length cap, .int .i64 t] 24)).drewN n) (fun i _ => zs.length - (intOf i).toNat)
      case atStart => exact ⟨0, 0, Nat.zero_le _, rfl, rfl, rfl⟩
      case round =>
        obtain ⟨k, n, hk, rfl, hn, rfl⟩ := hrel
        have HN := Lib.hid hn
        clear hn
        by_cases hlt : k < zs.length
        · obtain ⟨hwf, b, off, rfl, hcell⟩ := HI.out k hlt
          clear hwf
          have H1 := chk_in zs k hlt
          have H2 := chk_twice zs k hlt
          have H3 := chk_on zs k hlt
          generalize zs[k] = x at hcell H1 H2 H3
          rcases hix : inn x with _ | _
          · have HE := Lib.hid (HN.out.symm.trans (H1 hix))
            clear H1 H2 H3
            go_wp2_with (go_at_call 25; refine (dIn _ x).mono ?_; rintro e w1 ⟨rfl, rfl⟩)
            go_ret
            exact ⟨ret_int (by rw [HR.out, HE.out]; rfl), bl_drewN HB.out _⟩
          · have HE2 := Lib.hid (fun hm => HN.out.symm.trans (H2 hix hm))
            have HE3 := Lib.hid (fun hm => (H3 hix hm).symm.trans HN.out)
            clear H1 H2 H3
            go_wp2_with (go_at_call 25; refine (dIn _ x).mono ?_; rintro e w1 ⟨rfl, rfl⟩)
            go_loopw [4] (fun j wr => ∃ m n2 : Nat, m ≤ k ∧ j = .int .i64 m ∧ x ∉ zs.take m ∧ wr = (w.alloc (.cells #[.slice (some ⟨b, off, none⟩) zs.length cap, .int .i64 t] 24)).drewN n2) (fun j _ => k - (intOf j).toNat)
            case atStart => exact ⟨0, n, Nat.zero_le _, rfl, by simp, rfl⟩
            case round =>
              obtain ⟨m, n2, hm, rfl, hno, rfl⟩ := hrel
              have HNO := Lib.hid hno
              clear hno
              by_cases hlt2 : m < k
              · have hd2 : decide (m < k) = true := by simpa using hlt2
                obtain ⟨hwf2, b2, off2, hbo, hcell2⟩ := HI.out m (by omega)
                obtain ⟨rfl, rfl⟩ : b = b2 ∧ off = off2 := by simpa using hbo
                clear hwf2 hbo
                have HT := Lib.hid (take_at zs m (by omega))
                have HM := Lib.hid (show zs[m] ∈ zs.take k from by rw [← List.getElem_take (i := m) (j := k) (h := by rw [List.length_take]; omega)]; exact List.getElem_mem _)
                generalize zs[m] = y at hcell2 HT HM
                by_cases hyx : y = x
                · subst hyx
                  have HF := Lib.hid (HE2.out (decide_eq_true HM.out))
                  go_wp2
                  go_quiet (fail)
                  go_wp2
                  go_ret
                  exact ⟨ret_int (by rw [HR.out, HF.out]; rfl), bl_drewN (bl_drewN HB.out _) _⟩
                · have hd3 : (y == x) = false := by simpa using hyx
                  have HS := Lib.hid (memB_step_no HT.out HNO.out hyx)
                  clear hyx
                  go_wp2
                  go_quiet (fail)
                  go_wp2
                  go_roundw
                  case rel => exact ⟨m + 1, _, by omega, by go_num, HS.out, by first | rfl | (rw [World.drewN_drewN])⟩
                  case measure => simp [intOf]; omega
              · obtain rfl : m = k := by omega
                have HF := Lib.hid (HE3.out (decide_eq_false HNO.out))
                have hd2 : decide (m < m) = false := by simp
                go_wp2
                go_roundw
                case rel => exact ⟨m + 1, _, by omega, by go_num, HF.out, rfl⟩
                case measure => simp [intOf]; omega
        · have HE := Lib.hid (HN.out.symm.trans (chk_end zs k (by omega)))
          go_wp2
          go_ret
          exact ⟨ret_int (by rw [HR.out, HE.out]; rfl), bl_drewN HB.out _⟩
    · have hi' : inn t = false := by simpa using hi
      have HR := Lib.hid (check_tree h16 hi')
      clear h16 hi
      go_enter Try.func12, Try.ntmps12
      go_wp2_with (go_at_call 25; refine (dIn _ t).mono ?_; rintro e w1 ⟨rfl, rfl⟩)
      go_ret
      exact ⟨ret_int (by rw [HR.out]; rfl), HB.out⟩
end
end Go.Proofs.Ytmmabkppadokkaa
