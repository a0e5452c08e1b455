/- Walks of layer 8: searching a tree; what it has at a path. -/
import Derived.Test.YtplegohebfajlaaTrMk
set_option linter.unusedVariables false
set_option linter.unusedSimpArgs false
namespace Go.Proofs.Ytplegohebfajlaa
open Go.RowKit TrMath

theorem asc_lt {l : Ents} (h : Asc l) {p : ByteArray} {i j : Nat} (hj : j < l.length) (hij : i ≤ j) (k : ltB l[j].1 p = true) : ltB l[i].1 p = true := by
  rcases Nat.lt_or_ge i j with e | e
  · exact ltB_trans (List.pairwise_iff_getElem.1 h i j (by omega) hj e) k
  · obtain rfl : i = j := by omega
    exact k
theorem asc_ge {l : Ents} (h : Asc l) {p : ByteArray} {i j : Nat} (hj : j < l.length) (hij : i ≤ j) (k : ltB l[i].1 p = false) : ltB l[j].1 p = false := by
  cases e : ltB l[j].1 p
  · rfl
  · have := asc_lt h hj hij e
    rw [k] at this
    exact absurd this (by simp)
/-- Where a path stands, or would stand. -/
structure IxAt (l : Ents) (p : ByteArray) (i : Nat) : Prop where
  le : i ≤ l.length
  lo : ∀ j (h : j < l.length), j < i → ltB l[j].1 p = true
  hi : ∀ h : i < l.length, ltB l[i].1 p = false
/-- Does it stand there? -/
def okAt (l : Ents) (p : ByteArray) (i : Nat) : Bool := decide (∃ h : i < l.length, l[i].1 = p)
theorem lookL_ix {l : Ents} (h : Asc l) {p : ByteArray} {i : Nat} (hi : IxAt l p i) : lookL l p = if h : i < l.length then (if l[i].1 = p then l[i].2 else 0) else 0 := by
  by_cases hlt : i < l.length
  · rw [dif_pos hlt]
    by_cases he : l[i].1 = p
    · rw [if_pos he, ← he]; exact lookL_at l h i hlt
    · rw [if_neg he]
      refine lookL_no l p fun e hm k => ?_
      obtain ⟨j, hj, rfl⟩ := List.mem_iff_getElem.1 hm
      rcases Nat.lt_trichotomy j i with c | c | c
      · exact ltB_ne (hi.lo j hj c) k
      · subst c; exact he k
      · have h1 := List.pairwise_iff_getElem.1 h i j hlt hj c
        rw [k] at h1
        rw [hi.hi hlt] at h1
        exact absurd h1 (by simp)
  · rw [dif_neg hlt]
    refine lookL_no l p fun e hm k => ?_
    obtain ⟨j, hj, rfl⟩ := List.mem_iff_getElem.1 hm
    exact ltB_ne (hi.lo j hj (by omega)) k
def SearchSaid (l : Ents) (p : ByteArray) (w : World) (e : Ending) (w' : World) : Prop :=
  ∃ i : Nat, e = .returned (.tuple #[.int .i64 i, .bool (okAt l p i)]) ∧ IxAt l p i ∧ Below w.heap.size w w'

end Go.Proofs.Ytplegohebfajlaa
