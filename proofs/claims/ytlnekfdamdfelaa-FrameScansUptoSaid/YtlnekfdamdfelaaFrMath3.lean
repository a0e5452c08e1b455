/- Plain law of layer 7: what is read is told as it stood. -/
import Derived.Test.YtlnekfdamdfelaaFrMath2
set_option linter.unusedVariables false
set_option linter.unusedSimpArgs false
namespace Go.Proofs.Ytlnekfdamdfelaa.FrMath
open PackMath SumMath

theorem numR_fine {s : ByteArray} {a e n x b g : Nat} (h : numR s a e n = ((x, 0), (b, g))) : g = 0 := by
  by_cases he : e = 0
  · subst he
    by_cases hn : s.size - a < n
    · rw [numR_short hn] at h; simp at h
    · rw [numR_ok (by omega)] at h; simp only [Prod.mk.injEq] at h; exact h.2.2.symm
  · rw [numR_err he] at h; simp only [Prod.mk.injEq] at h; exact absurd h.1.2 he
theorem rawR_inv {s b : ByteArray} {a e n f c : Nat} (h : rawR s a e n = ((b, f), (c, 0))) : e = 0 ∧ c = a + n ∧ a + n ≤ s.size ∧ b = s.extract a (a + n) := by
  by_cases he : e = 0
  · subst he
    by_cases hn : a + n ≤ s.size
    · rw [rawR_ok hn] at h
      simp only [Prod.mk.injEq] at h
      exact ⟨rfl, h.2.1.symm, hn, h.1.1.symm⟩
    · rw [rawR_short (by omega) (by omega)] at h
      simp at h
  · rw [rawR_err he] at h
    simp only [Prod.mk.injEq] at h
    exact absurd h.2.2 he
theorem dec_told {s b : ByteArray} {k n : Nat} (h : decP s = (0, (k, (b, n)))) : 1 ≤ k ∧ k ≤ 255 ∧ b.size ≤ 1048576 ∧ n ≤ s.size ∧ encF k b = s.data.toList.take n := by
  obtain ⟨k', f0, a1, e1, h0⟩ : ∃ v f b g, numR s 0 0 1 = ((v, f), (b, g)) := ⟨_, _, _, _, rfl⟩
  obtain ⟨m, f1, a2, e2, h1⟩ : ∃ v f b g, numR s a1 e1 4 = ((v, f), (b, g)) := ⟨_, _, _, _, rfl⟩
  obtain ⟨b', f2, a3, e3, h2⟩ : ∃ v f b g, rawR s a2 e2 m = ((v, f), (b, g)) := ⟨_, _, _, _, rfl⟩
  obtain ⟨c, f3, a4, e4, h3⟩ : ∃ v f b g, numR s a3 e3 4 = ((v, f), (b, g)) := ⟨_, _, _, _, rfl⟩
  by_cases hA : f0 = 0 ∧ k' = 0
  · rw [dp_zero h0 hA] at h; simp at h
  · by_cases hB : f1 = 0
    · by_cases hC : 1048576 < m
      · rw [dp_great h0 h1 hA hB hC] at h; simp at h
      · by_cases hD : f3 = 0
        · by_cases hE : c = crc (s.extract 0 (a4 - 4)).data.toList
          · rw [dp_ok h0 h1 h2 h3 hA hB hC hD hE] at h
            simp only [Prod.mk.injEq, true_and] at h
            obtain ⟨rfl, rfl, rfl⟩ := h
            subst hD
            obtain rfl := numR_fine h3
            obtain ⟨rfl, _, rfl, hn3, hx3⟩ := numR_inv h3
            obtain ⟨rfl, rfl, hn2, rfl⟩ := rawR_inv h2
            obtain ⟨rfl, _, rfl, hn1, hx1⟩ := numR_inv h1
            obtain ⟨_, rfl, rfl, hn0, hx0⟩ := numR_inv h0
            have hk := numR_lt s 0 0 1
            rw [h0] at hk
            have hk' : k' < 256 := hk
            have hk1 : 1 ≤ k' := by omega
            have hbs : (s.extract (0 + 1 + 4) (0 + 1 + 4 + m)).size = m := by rw [ByteArray.size_extract]; omega
            refine ⟨hk1, by omega, by omega, by omega, ?_⟩
            have hs := size_list s
            have hh : headF k' (s.extract (0 + 1 + 4) (0 + 1 + 4 + m)) = s.data.toList.take (m + 5) := by
              unfold headF
              rw [hbs, ← hx0, ← hx1, extract_list, List.drop_zero, show 0 + 1 + 4 + m - (0 + 1 + 4) = m from by omega]
              have e : m + 5 = 1 + (4 + m) := by omega
              rw [e, List.take_add, List.take_add, List.drop_drop, List.append_assoc]
            have hsum : (s.extract 0 (0 + 1 + 4 + m + 4 - 4)).data.toList = s.data.toList.take (m + 5) := by
              rw [extract_list, List.drop_zero]; congr 1; omega
            unfold encF
            rw [hh, ← hsum, ← hE, ← hx3, hsum]
            have e5 : 0 + 1 + 4 + m = m + 5 := by omega
            rw [e5]
            exact (List.take_add (i := m + 5) (j := 4)).symm
          · rw [dp_sum h0 h1 h2 h3 hA hB hC hD hE] at h; simp at h
        · rw [dp_short h0 h1 h2 h3 hA hB hC hD] at h; simp only [Prod.mk.injEq] at h; exact absurd h.1 hD
    · rw [dp_len h0 h1 hA hB] at h; simp only [Prod.mk.injEq] at h; exact absurd h.1 hB
theorem dec_not {s b : ByteArray} {E k n : Nat} (h : decP s = (E, (k, (b, n)))) (hE : E ≠ 0) : k = 0 ∧ b = ⟨#[]⟩ ∧ n = 0 := by
  unfold decP at h
  simp only at h
  repeat' split at h
  all_goals simp only [Prod.mk.injEq] at h
  all_goals first | exact ⟨h.2.1.symm, h.2.2.1.symm, h.2.2.2.symm⟩ | exact absurd h.1.symm hE
theorem head_one : headF 1 ⟨#[97]⟩ = [1, 0, 0, 0, 1, 97] := by decide
end Go.Proofs.Ytlnekfdamdfelaa.FrMath
