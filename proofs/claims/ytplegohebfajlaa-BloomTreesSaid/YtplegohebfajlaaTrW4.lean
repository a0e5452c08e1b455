/- Walks of layer 8: lists of entries: the same?; is any path too long? -/
import Derived.Test.YtplegohebfajlaaTrW3
import Derived.Test.YtplegohebfajlaaTrMath
import Derived.Deep.QuietTactic
import Derived.BigQuiet
set_option linter.unusedVariables false
set_option linter.unusedSimpArgs false
namespace Go.Proofs.Ytplegohebfajlaa
open Go.RowKit TrMath

def sameB (l m : List (ByteArray × Int)) : Bool := decide (l = m)
theorem sameB_self (l : List (ByteArray × Int)) : sameB l l = true := decide_eq_true rfl
theorem sameB_len {l m : List (ByteArray × Int)} (h : l.length ≠ m.length) : sameB l m = false := decide_eq_false fun e => h (by rw [e])
theorem sameB_at {l m : List (ByteArray × Int)} {k : Nat} (h1 : k < l.length) (h2 : k < m.length) (h : l[k] ≠ m[k]) : sameB l m = false := decide_eq_false fun e => h (by subst e; rfl)
theorem sameB_all {l m : List (ByteArray × Int)} (h : l.length = m.length) (hk : ∀ k (h1 : k < l.length) (h2 : k < m.length), l[k] = m[k]) : sameB l m = true := decide_eq_true (List.ext_getElem h fun k h1 h2 => hk k h1 h2)
theorem ent_ne {p q : ByteArray} {v u : Int} (h : (p, v) ≠ (q, u)) : ((p.toList == q.toList) = true ∧ (v == u) = false) ∨ (p.toList == q.toList) = false := by
  by_cases e : p = q
  · subst e
    refine .inl ⟨by simp, ?_⟩
    simp
    intro k
    exact h (by rw [k])
  · refine .inr ?_
    simp only [beq_eq_false_iff_ne, ne_eq, ByteArray.toList_eq]
    intro k
    exact e (kB_inj k)

end Go.Proofs.Ytplegohebfajlaa
