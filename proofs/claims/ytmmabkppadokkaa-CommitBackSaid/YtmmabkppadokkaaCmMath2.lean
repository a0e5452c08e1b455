/- Plain law of layer 9: what bytes are read as. -/
import Derived.Test.YtmmabkppadokkaaCmMath
import Derived.Test.YtmmabkppadokkaaRdMath3
set_option linter.unusedVariables false
set_option linter.unusedSimpArgs false
namespace Go.Proofs.Ytmmabkppadokkaa.PackMath

/-- So many numbers of four bytes, one behind the other. -/
def readsR (s : ByteArray) : Nat → Nat → Nat → List Int × (Nat × Nat)
  | 0, a, e => ([], (a, e))
  | k + 1, a, e => ((((numR s a e 4).1.1 : Nat) : Int) :: (readsR s k (numR s a e 4).2.1 (numR s a e 4).2.2).1, (readsR s k (numR s a e 4).2.1 (numR s a e 4).2.2).2)

/-- The error, the tree, the parents. -/
def decR (s : ByteArray) : Nat × (Nat × List Int) :=
  let A := numR s 0 0 4
  let B := numR s A.2.1 A.2.2 1
  if B.1.2 = 0 ∧ 16 < B.1.1 then (3, (0, []))
  else
    let L := readsR s B.1.1 B.2.1 B.2.2
    let E := endR s L.2.1 L.2.2
    if E ≠ 0 then (E, (0, [])) else if checkR A.1.1 L.1 ≠ 0 then (3, (0, [])) else (0, (A.1.1, L.1))

section
variable {s : ByteArray} {t f0 a1 e1 n f1 a2 e2 a e : Nat} {l : List Int}
theorem dec_form (h0 : numR s 0 0 4 = ((t, f0), (a1, e1))) (h1 : numR s a1 e1 1 = ((n, f1), (a2, e2))) (hf : f1 = 0) (hn : 16 < n) : decR s = (3, (0, [])) := by
  unfold decR; simp only [h0, h1]; rw [if_pos ⟨hf, hn⟩]
theorem dec_end (h0 : numR s 0 0 4 = ((t, f0), (a1, e1))) (h1 : numR s a1 e1 1 = ((n, f1), (a2, e2))) (hb : ¬ (f1 = 0 ∧ 16 < n)) (h2 : readsR s n a2 e2 = (l, (a, e))) (hE : endR s a e ≠ 0) : decR s = (endR s a e, (0, [])) := by
  unfold decR; simp only [h0, h1]; rw [if_neg hb]; simp only [h2]; rw [if_pos hE]
theorem dec_chk (h0 : numR s 0 0 4 = ((t, f0), (a1, e1))) (h1 : numR s a1 e1 1 = ((n, f1), (a2, e2))) (hb : ¬ (f1 = 0 ∧ 16 < n)) (h2 : readsR s n a2 e2 = (l, (a, e))) (hE : endR s a e = 0) (hc : checkR t l ≠ 0) : decR s = (3, (0, [])) := by
  unfold decR; simp only [h0, h1]; rw [if_neg hb]; simp only [h2]; rw [if_neg (by simpa using hE), if_pos hc]
theorem dec_ok (h0 : numR s 0 0 4 = ((t, f0), (a1, e1))) (h1 : numR s a1 e1 1 = ((n, f1), (a2, e2))) (hb : ¬ (f1 = 0 ∧ 16 < n)) (h2 : readsR s n a2 e2 = (l, (a, e))) (hE : endR s a e = 0) (hc : checkR t l = 0) : decR s = (0, (t, l)) := by
  unfold decR; simp only [h0, h1]; rw [if_neg hb]; simp only [h2]; rw [if_neg (by simpa using hE), if_neg (by simpa using hc)]

theorem reads_zero : readsR s 0 a e = ([], (a, e)) := rfl
theorem reads_step {j x f b g : Nat} {pre : List Int} {R : List Int × (Nat × Nat)} (h : R = (pre ++ (readsR s (n - j) a e).1, (readsR s (n - j) a e).2)) (hj : j < n) (hx : numR s a e 4 = ((x, f), (b, g))) :
    R = ((pre ++ [(x : Int)]) ++ (readsR s (n - (j + 1)) b g).1, (readsR s (n - (j + 1)) b g).2) := by
  rw [h, show n - j = (n - (j + 1)) + 1 from by omega, readsR, hx, List.append_assoc]
  rfl
theorem reads_end {pre : List Int} {R : List Int × (Nat × Nat)} (h : R = (pre ++ (readsR s (n - n) a e).1, (readsR s (n - n) a e).2)) : R = (pre, (a, e)) := by
  rw [h, Nat.sub_self, reads_zero]; simp
theorem reads_len : ∀ (k a e : Nat), (readsR s k a e).1.length = k
  | 0, _, _ => rfl
  | k + 1, a, e => by rw [readsR, List.length_cons, reads_len k]
theorem reads_small : ∀ (k a e : Nat), ∀ z ∈ (readsR s k a e).1, 0 ≤ z ∧ z < 4294967296
  | 0, _, _, z, hz => by cases hz
  | k + 1, a, e, z, hz => by
    rw [readsR] at hz
    rcases List.mem_cons.1 hz with rfl | hz
    · have := numR_lt s a e 4
      have h4 : 256 ^ 4 = 4294967296 := rfl
      omega
    · exact reads_small k _ _ z hz
end
theorem dec_good (s : ByteArray) : (decR s).2.2.length ≤ 16 ∧ ∀ z ∈ (decR s).2.2, 0 ≤ z ∧ z < 4294967296 := by
  unfold decR
  simp only
  split
  · exact ⟨by simp, fun z hz => by cases hz⟩
  · split
    · exact ⟨by simp, fun z hz => by cases hz⟩
    · split
      · exact ⟨by simp, fun z hz => by cases hz⟩
      · rename_i hc
        exact ⟨(check_ok (by simpa using hc)).1, reads_small _ _ _⟩
end Go.Proofs.Ytmmabkppadokkaa.PackMath
