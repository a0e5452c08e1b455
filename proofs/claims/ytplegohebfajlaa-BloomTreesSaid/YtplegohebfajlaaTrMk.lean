/- Walks of layer 8: tree.Make. -/
import Derived.Test.YtplegohebfajlaaTrS2
set_option linter.unusedVariables false
set_option linter.unusedSimpArgs false
namespace Go.Proofs.Ytplegohebfajlaa
open Go.RowKit TrMath

theorem pick_drop {m : Ents} {k : Nat} {p : ByteArray} {v : Int} (hk : k < m.length) (hx : m[k] = (p, v)) : pickL (m.drop k) = (if v ≠ 0 ∧ (∀ h : k + 1 < m.length, m[k + 1].1 ≠ p) then [(p, v)] else []) ++ pickL (m.drop (k + 1)) := by
  rw [List.drop_eq_getElem_cons hk, hx, pickL.eq_2]
  have e : (∀ h : 0 < (m.drop (k + 1)).length, (m.drop (k + 1))[0].1 ≠ p) ↔ (∀ h : k + 1 < m.length, m[k + 1].1 ≠ p) := by
    constructor
    · intro h h1
      have := h (by simp; omega)
      simpa using this
    · intro h h1
      have h2 : k + 1 < m.length := by simp at h1; omega
      have := h h2
      simpa using this
  by_cases c : v ≠ 0 ∧ (∀ h : k + 1 < m.length, m[k + 1].1 ≠ p)
  · rw [if_pos c, if_pos ⟨c.1, e.2 c.2⟩]; rfl
  · rw [if_neg c, if_neg (fun h => c ⟨h.1, e.1 h.2⟩)]; rfl
theorem bl_drewN {w x : World} {B : Nat} (h : Below B w x) (n : Nat) : Below B w (x.drewN n) := ⟨h.os, h.tape, h.output, h.size, h.block⟩
theorem cells_pair2 (w : World) (u v : Value) (t : TypeId) (o : Obj) (n : Nat) : ∀ (j : Nat) x, [u, v][j]? = some x → (((w.alloc o).drewN n).alloc (.cells #[u, v] t)).cell? ((⟨w.heap.size + 1, 0, none⟩ : Addr).add j) = some x := by
  have := cells_pair ((w.alloc o).drewN n) u v t
  simpa using this
theorem Own.push {w1 : World} {B : Nat} {v1 : Value} {l : Ents} {p : ByteArray} {x : Int} (h : w1.ownsRow B 47 2 v1 (l.length + 1) (enCells l ++ [.string p, .int .u32 x])) : Own w1 B v1 (l ++ [(p, x)]) := by
  unfold Own
  rw [List.length_append, enCells_snoc]
  exact h
def mkE (l : Ents) : Int := if longAt l then 5 else 0
def mkT (l : Ents) : Ents := if longAt l then [] else foldP [] l
def MakeSaid (l : Ents) (w : World) (e : Ending) (w' : World) : Prop := ∃ v, e = .returned (.tuple #[v, .int .i64 (mkE l)]) ∧ Own w' w.heap.size v (mkT l) ∧ Below w.heap.size w w'
theorem long_no {l : Ents} (h : longAt l = false) : ∀ e ∈ l, e.1.size ≤ 255 := by
  intro e he
  unfold longAt at h
  have := List.any_eq_false.1 h e he
  simpa using this
theorem str_eq {p q : ByteArray} (h : q ≠ p) : (q.toList == p.toList) = false := by
  simp only [beq_eq_false_iff_ne, ne_eq, ByteArray.toList_eq]
  exact fun k => h (kB_inj k)
theorem str_ne {p q : ByteArray} (h : q ≠ p) : (q.toList != p.toList) = true := by rw [bne, str_eq h]; rfl

end Go.Proofs.Ytplegohebfajlaa
