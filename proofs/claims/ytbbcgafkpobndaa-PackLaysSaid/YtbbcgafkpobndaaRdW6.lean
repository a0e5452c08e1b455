/- Walks of layer 2: the short numbers of the document's reader. -/
import Derived.Test.YtbbcgafkpobndaaRdW5
set_option linter.unusedVariables false
set_option linter.unusedSimpArgs false
namespace Go.Proofs.Ytbbcgafkpobndaa
open Go.RowKit PackMath

theorem short_val2 (V n k : Nat) (hk : k ≤ 9) (h9 : k = 9 → n % 128 ≤ 1) (hV : V < 2 ^ (7 * k)) :
    bits .or .u64 (V : Int) (IntKind.u64.wrap (((n : Int) % 128) * 2 ^ (7 * k))) = ((V + n % 128 * 2 ^ (7 * k) : Nat) : Int) := by
  have h := short_or V n k hk h9 hV
  rw [show ((n % 128 : Nat) : Int) = (n : Int) % 128 from by omega] at h
  exact h

theorem Kept.drewN (w : World) (p n : Nat) : Kept w (w.drewN n) p := ⟨rfl, rfl, rfl, Nat.le_refl _, fun _ _ _ => rfl⟩

set_option maxHeartbeats 4000000 in
set_option maxRecDepth 100000 in
theorem xShort (p : Nat) (s : ByteArray) (a e : Nat) (w : World) (h : IsRd TX w p s a e) :
    Calls Try.prog 42 #[.pointer (some ⟨p, 0, none⟩)] w fun r w' => r = .returned (.tuple #[.int .u64 (shortR s a e).1.1, .int .i64 (shortR s a e).1.2]) ∧ Kept w w' p ∧ IsRd TX w' p s (shortR s a e).2.1 (shortR s a e).2.2 := by
  obtain ⟨c0, c1, c2, f0, f1, f2⟩ := h.cells
  have hle := h.le
  have hsm := h.small
  have HR := Lib.hid h
  clear h
  by_cases he : e = 0
  · subst he
    have HST : Hid (shortGo a (s.data.toList.drop (a + 0)) 0 0 = shortR s a 0) := Lib.hid (by unfold shortR; rw [if_neg (by simp)]; rfl)
    go_enter Try.func42, Try.ntmps42
    go_wp2
    go_loopw [4, 5] (fun v i wr => ∃ k V : Nat, k ≤ 9 ∧ a + k ≤ s.size ∧ i = .int .i64 k ∧ v = .int .u64 V ∧ V < 2 ^ (7 * k) ∧ shortGo a (s.data.toList.drop (a + k)) k V = shortR s a 0 ∧ Kept w wr p ∧ IsRd TX wr p s a 0) (fun _ i _ => 10 - (intOf i).toNat)
    case atStart => exact ⟨0, 0, by decide, hle, rfl, rfl, by decide, HST.out, Kept.refl _ _, HR.out⟩
    case round =>
      obtain ⟨k, V, hk9, hk, rfl, rfl, hV, hst, hkp, hrd⟩ := hrel
      have HS := Lib.hid hst; have HVV := Lib.hid hV; have HKP := Lib.hid hkp; have HRD := Lib.hid hrd
      clear hst hV HST hkp hrd c0 c1 c2 f0 f1 f2
      by_cases hlt : a + k < s.size
      · have hd : decide ((s.size : Int) - (a : Int) ≤ (k : Int)) = false := by simp; omega
        have hlen : s.data.toList.length = s.size := by simp
        have hdr := List.drop_eq_getElem_cons (l := s.data.toList) (i := a + k) (by omega)
        have HS2 : Hid (shortGo a (s[a + k] :: s.data.toList.drop (a + (k + 1))) k V = shortR s a 0) := Lib.hid (by rw [← HS.out, hdr]; rfl)
        have hidx := idx_at s a k hlt
        have hak : IntKind.i64.wrap ((a : Int) + k) = (a : Int) + k := IntWalk.i64_in _ (by omega)
        clear hdr HS hlen
        generalize s[a + k] = c at hidx HS2
        have hcl := c.toNat_lt
        obtain ⟨n, hn⟩ : ∃ n, c.toNat = n := ⟨_, rfl⟩
        rw [hn] at hcl
        simp only [hn] at hidx
        by_cases q1 : k = 9 <;> by_cases q2 : 1 < n <;> by_cases q3 : 0 < k <;> by_cases q4 : n = 0 <;> by_cases q5 : n < 128
        all_goals try (exfalso; omega)
        all_goals (
          first | (have z1 : ((k : Int) == 9) = true := by simp; omega) | (have z1 : ((k : Int) == 9) = false := by simp; omega)
          first | (have z2 : decide ((1 : Int) < (n : Int)) = true := by simp; omega) | (have z2 : decide ((1 : Int) < (n : Int)) = false := by simp; omega)
          first | (have z3 : decide ((0 : Int) < (k : Int)) = true := by simp; omega) | (have z3 : decide ((0 : Int) < (k : Int)) = false := by simp; omega)
          first | (have z4 : ((n : Int) == 0) = true := by simp; omega) | (have z4 : ((n : Int) == 0) = false := by simp; omega)
          first | (have z5 : decide ((n : Int) < 128) = true := by simp; omega) | (have z5 : decide ((n : Int) < 128) = false := by simp; omega)
          first
            | (have HA : Hid (shortR s a 0 = ((0, 3), (a, 3))) := Lib.hid (by rw [← HS2.out]; exact go_bad (by rw [hn]; omega)))
            | (have HA : Hid (shortR s a 0 = ((V + n % 128 * 2 ^ (7 * k), 0), (a + k + 1, 0))) := Lib.hid (by rw [← HS2.out, ← hn]; exact go_last (by rw [hn]; omega) (by rw [hn]; omega))
               have HV2 := Lib.hid (short_val2 V n k (by omega) (by omega) HVV.out))
            | (have HA : Hid (shortGo a (s.data.toList.drop (a + (k + 1))) (k + 1) (V + n % 128 * 2 ^ (7 * k)) = shortR s a 0) := Lib.hid (by rw [← HS2.out, ← hn]; exact (go_on (by rw [hn]; omega) (by rw [hn]; omega)).symm)
               have HV2 := Lib.hid (short_val2 V n k (by omega) (by omega) HVV.out)
               have hk8 : k ≤ 8 := (by omega))
          clear HS2 q1 q2 q3 q4 q5 hn
          go_wp2_with (go_at_call 45; refine (xLeft p s a 0 _ HRD.out).mono ?_; rintro r w1 ⟨rfl, hk⟩; have HK1 := Lib.hid hk; obtain ⟨d0, d1, d2, g0, g1, g2⟩ := hk.2.cells; clear hk))
        all_goals go_quiet (fail)
        all_goals (go_wp2_with (go_at_call 46; refine (xFail_at p s a _ _ 3 rfl (by exact ⟨HK1.out.2.cell, HK1.out.2.le, HK1.out.2.small⟩)).mono ?_; rintro r w2 ⟨rfl, hk⟩; have HK2 := Lib.hid hk; clear hk))
        all_goals try (exfalso; simp only [decide_eq_true_eq, decide_eq_false_iff_not] at z3; omega)
        all_goals try (
          go_ret2
          rw [HA.out]
          exact ⟨rfl, ((HKP.out.trans HK1.out.1).trans (Kept.drewN _ _ _)).trans HK2.out.1, HK2.out.2⟩)
        all_goals try (
          go_roundw
          case rel => exact ⟨k + 1, V + n % 128 * 2 ^ (7 * k), by omega, by omega, by go_num, by rw [HV2.out], short_lt n HVV.out, HA.out, (HKP.out.trans HK1.out.1).trans (Kept.drewN _ _ _), HK1.out.2.cell, HK1.out.2.le, HK1.out.2.small⟩
          case measure => simp [intOf]; omega)
        all_goals
          go_ret2
          rw [HA.out]
          exact ⟨ret2 HV2.out rfl, ((HKP.out.trans HK1.out.1).trans (Kept.drewN _ _ _)).trans (Kept.set _ _ _ _), IsRd.at1 (w := w1.drewN nq) ⟨HK1.out.2.cell, HK1.out.2.le, HK1.out.2.small⟩ (a + k + 1) (by omega)⟩
      · have hd : decide ((s.size : Int) - (a : Int) ≤ (k : Int)) = true := by simp; omega
        have HS2 : Hid (shortR s a 0 = ((0, 2), (a, 2))) := Lib.hid (by rw [← HS.out, List.drop_of_length_le (by simp; omega)]; rfl)
        go_wp2_with (go_at_call 45; refine (xLeft p s a 0 _ HRD.out).mono ?_; rintro r w1 ⟨rfl, hk⟩; have HK1 := Lib.hid hk; clear hk)
        go_wp2_with (go_at_call 46; refine (xFail_at p s a w1 _ 2 rfl HK1.out.2).mono ?_; rintro r w2 ⟨rfl, hk⟩; have HK2 := Lib.hid hk; clear hk)
        go_ret2
        rw [HS2.out]
        exact ⟨rfl, (HKP.out.trans HK1.out.1).trans HK2.out.1, HK2.out.2⟩
  · have hd : ((e : Int) != 0) = true := by simp; omega
    have HE := Lib.hid he
    clear he
    go_enter Try.func42, Try.ntmps42
    go_wp2
    go_quiet (fail)
    go_wp2
    go_ret2
    have h2 : shortR s a e = ((0, e), (a, e)) := by unfold shortR; rw [if_pos HE.out]
    rw [h2]
    exact ⟨rfl, ⟨rfl, rfl, rfl, Nat.le_refl _, fun _ _ _ => rfl⟩, HR.out.cell, HR.out.le, HR.out.small⟩
end Go.Proofs.Ytbbcgafkpobndaa
