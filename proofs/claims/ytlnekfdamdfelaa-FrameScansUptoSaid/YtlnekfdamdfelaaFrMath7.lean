/- Plain law of layer 7: the places at which frames are given one by one. -/
import Derived.Test.YtlnekfdamdfelaaFrMath4
set_option linter.unusedVariables false
set_option linter.unusedSimpArgs false
namespace Go.Proofs.Ytlnekfdamdfelaa.FrMath
open PackMath SumMath

/-- The frame at an index; the place where it stands. -/
def frAt (l : List (Int × ByteArray)) (j : Nat) : Int × ByteArray := l.getD j (0, ⟨#[]⟩)
def posF (l : List (Int × ByteArray)) : Nat → Nat
  | 0 => 0
  | j + 1 => posF l j + ((frAt l j).2.size + 9)
theorem posF_lt (l : List (Int × ByteArray)) {i : Nat} : ∀ {j : Nat}, i < j → posF l i < posF l j
  | 0, h => absurd h (Nat.not_lt_zero _)
  | j + 1, h => by
    show posF l i < posF l j + _
    rcases Nat.lt_or_ge i j with h1 | h1
    · have := posF_lt l h1; omega
    · obtain rfl : i = j := by omega
      omega
theorem posF_ne (l : List (Int × ByteArray)) {i j : Nat} (h : i ≠ j) : posF l i ≠ posF l j := by
  rcases Nat.lt_or_ge i j with h1 | h1
  · have := posF_lt l h1; omega
  · have := posF_lt l (show j < i by omega); omega
theorem frAt_get {l : List (Int × ByteArray)} {j : Nat} (h : j < l.length) : frAt l j = l[j] := by
  unfold frAt; rw [List.getD_eq_getElem?_getD, List.getElem?_eq_getElem h]; rfl

theorem scan_head {s : ByteArray} {fuel a : Nat} {f : Int × ByteArray} {r : List (Int × ByteArray)} {t : Nat × Nat} (ha : a ≤ s.size) (hf : s.size ≤ a + fuel) (h : scanGo s fuel a = (f :: r, t)) :
    a < s.size ∧ ∃ K b, decP (s.extract a s.size) = (0, (K, (b, b.size + 9))) ∧ f = ((K : Int), b) ∧ a + (b.size + 9) ≤ s.size ∧ scanGo s (fuel - 1) (a + (b.size + 9)) = (r, t) := by
  by_cases hlt : a < s.size
  · refine ⟨hlt, ?_⟩
    obtain ⟨E, K, b, n, hD⟩ : ∃ E K b n, decP (s.extract a s.size) = (E, (K, (b, n))) := ⟨_, _, _, _, rfl⟩
    by_cases hE : E = 0
    · subst hE
      obtain ⟨hn, hs⟩ := dec_size hD ha
      subst hn
      rw [sg_ok hlt hf hD] at h
      have h1 := (Prod.mk.inj h).1
      have h2 := (Prod.mk.inj h).2
      have h3 := List.cons.inj h1
      exact ⟨K, b, hD, h3.1.symm, hs, Prod.ext h3.2 h2⟩
    · rw [sg_err hlt hf hD hE] at h
      cases h
  · rw [sg_end (by omega)] at h
    cases h
theorem scan_walk (s : ByteArray) : ∀ k, k ≤ (scanR s).1.length → posF (scanR s).1 k ≤ s.size ∧ ∃ fuel, s.size ≤ posF (scanR s).1 k + fuel ∧ scanGo s fuel (posF (scanR s).1 k) = ((scanR s).1.drop k, (scanR s).2)
  | 0, _ => ⟨Nat.zero_le _, s.size, by simp, rfl⟩
  | k + 1, h => by
    obtain ⟨hp, fuel, hf, hg⟩ := scan_walk s k (by omega)
    rw [List.drop_eq_getElem_cons (by omega)] at hg
    obtain ⟨_, K, b, _, hfr, hs, hr⟩ := scan_head hp hf hg
    have e : posF (scanR s).1 (k + 1) = posF (scanR s).1 k + (b.size + 9) := by
      show _ + _ = _
      rw [frAt_get (by omega), hfr]
    rw [e]
    exact ⟨hs, fuel - 1, by omega, hr⟩
theorem scan_at {s : ByteArray} {k : Nat} (h : k < (scanR s).1.length) : posF (scanR s).1 k < s.size ∧ ∃ K b, decP (s.extract (posF (scanR s).1 k) s.size) = (0, (K, (b, b.size + 9))) ∧ frAt (scanR s).1 k = ((K : Int), b) := by
  obtain ⟨hp, fuel, hf, hg⟩ := scan_walk s k (by omega)
  rw [List.drop_eq_getElem_cons h] at hg
  obtain ⟨hlt, K, b, hd, hfr, _, _⟩ := scan_head hp hf hg
  exact ⟨hlt, K, b, hd, by rw [frAt_get h, hfr]⟩
theorem scan_last {s : ByteArray} (hlt : posF (scanR s).1 (scanR s).1.length < s.size) : (decP (s.extract (posF (scanR s).1 (scanR s).1.length) s.size)).1 ≠ 0 := by
  obtain ⟨hp, fuel, hf, hg⟩ := scan_walk s (scanR s).1.length (Nat.le_refl _)
  rw [List.drop_length] at hg
  generalize posF (scanR s).1 (scanR s).1.length = a at *
  generalize (scanR s).2 = t at *
  intro hE
  obtain ⟨E, K, b, n, hD⟩ : ∃ E K b n, decP (s.extract a s.size) = (E, (K, (b, n))) := ⟨_, _, _, _, rfl⟩
  rw [hD] at hE
  obtain rfl : E = 0 := hE
  rw [sg_ok hlt hf hD] at hg
  cases hg
theorem scan_len (s : ByteArray) : (scanR s).1.length * 9 ≤ s.size := by
  have : ∀ k, k ≤ (scanR s).1.length → k * 9 ≤ posF (scanR s).1 k := by
    intro k
    induction k with
    | zero => intro _; exact Nat.zero_le _
    | succ k ih => intro h; have := ih (by omega); show _ ≤ posF (scanR s).1 k + _; omega
  have h1 := this _ (Nat.le_refl _)
  have h2 := (scan_walk s _ (Nat.le_refl _)).1
  omega
end Go.Proofs.Ytlnekfdamdfelaa.FrMath
