/- Layer 8: rows of changes of one's own. -/
import Derived.Test.YtplegohebfajlaaTrCa
set_option linter.unusedVariables false
set_option linter.unusedSimpArgs false
namespace Go.Proofs.Ytplegohebfajlaa
open Go.RowKit TrMath

theorem infoChange : (Try.prog.info? 61).map (fun i => (i.zero, i.size, i.bytes)) = some (some (.agg #[.string ⟨#[]⟩, .int .u32 0, .int .u32 0]), 3, 24) := by kernel_rfl
/-- The cells of some changes. -/
def chCells (l : Chs) : List Value := l.flatMap fun e => [.string e.1, .int .u32 e.2.1, .int .u32 e.2.2]
theorem chCells_len (l : Chs) : (chCells l).length = l.length * 3 := by
  induction l with
  | nil => rfl
  | cons x r ih => rw [chCells, List.flatMap_cons, List.length_append]; show 3 + (chCells r).length = (r.length + 1) * 3; omega
theorem chCells_snoc (l : Chs) (p : ByteArray) (u v : Int) : chCells (l ++ [(p, u, v)]) = chCells l ++ [.string p, .int .u32 u, .int .u32 v] := by simp [chCells]
theorem chCells_get (l : Chs) : ∀ i (h : i < l.length), (chCells l)[i * 3]? = some (.string l[i].1) ∧ (chCells l)[i * 3 + 1]? = some (.int .u32 l[i].2.1) ∧ (chCells l)[i * 3 + 2]? = some (.int .u32 l[i].2.2) := by
  induction l with
  | nil => intro i h; simp at h
  | cons f r ih =>
    intro i h
    match i, h with
    | 0, _ => exact ⟨rfl, rfl, rfl⟩
    | i + 1, h =>
      have := ih i (by simpa using h)
      have e : chCells (f :: r) = .string f.1 :: .int .u32 f.2.1 :: .int .u32 f.2.2 :: chCells r := rfl
      rw [e, show (i + 1) * 3 = i * 3 + 1 + 1 + 1 from by omega]
      simp only [List.getElem?_cons_succ, List.getElem_cons_succ]
      exact this
/-- A row of changes of one's own. -/
def OwnC (w : World) (B : Nat) (v : Value) (l : Chs) : Prop := w.ownsRow B 61 3 v l.length (chCells l)
theorem OwnC.nil (w : World) (B : Nat) : OwnC w B (.slice none 0 0) [] := World.ownsRow_nil _ _ _ _
theorem OwnC.at {w : World} {B : Nat} {v : Value} {l : Chs} (h : OwnC w B v l) : ∃ a c, v = .slice a l.length c ∧ ChAt w a l ∧ l.length ≤ c ∧ c ≤ maxLen := by
  rcases h.2 with ⟨rfl, h0⟩ | ⟨g, cap, cur, rfl, hgb, hh, hnc, hcm, hcs, htake⟩
  · exact ⟨none, 0, by rw [h0], fun i hi => by omega, by omega, by simp [maxLen]⟩
  · refine ⟨_, _, rfl, fun i hi => ?_, hnc, hcm⟩
    obtain ⟨h1, h2, h3⟩ := chCells_get l i hi
    refine ⟨g, 0, rfl, (Array.getElem?_eq_some_iff.1 hh).1, ?_, ?_, ?_⟩
    · rw [Nat.zero_add, World.ownsRow.cellAt h _ (by omega)]; exact h1
    · rw [Nat.zero_add, World.ownsRow.cellAt h _ (by omega)]; exact h2
    · rw [Nat.zero_add, World.ownsRow.cellAt h _ (by omega)]; exact h3
theorem OwnC.mono {w : World} {B C : Nat} {v : Value} {l : Chs} (h : OwnC w B v l) (hc : C ≤ B) : OwnC w C v l := by
  refine ⟨h.1, ?_⟩
  rcases h.2 with h2 | ⟨g, cap, cur, hvv, hgb, r⟩
  · exact .inl h2
  · exact .inr ⟨g, cap, cur, hvv, by omega, r⟩
theorem OwnC.lt {w : World} {B : Nat} {v : Value} {l : Chs} (h : OwnC w B v l) : ∀ k, v.ownBlock = some k → B ≤ k ∧ k < w.heap.size := World.ownsRow.lt h
theorem OwnC.keep {w w' : World} {B : Nat} {v : Value} {l : Chs} (h : OwnC w B v l) (hk : ∀ k, v.ownBlock = some k → w'.heap[k]? = w.heap[k]?) : OwnC w' B v l := by
  refine ⟨h.1, ?_⟩
  rcases h.2 with h2 | ⟨g, cap, cur, hvv, hgb, hh, r⟩
  · exact .inl h2
  · exact .inr ⟨g, cap, cur, hvv, hgb, by rw [hk g (by rw [hvv]; rfl)]; exact hh, r⟩
theorem OwnC.below {w w' : World} {B : Nat} {v : Value} {l : Chs} (h : OwnC w B v l) (hb : Below w.heap.size w w') : OwnC w' B v l :=
  h.keep fun k hk => hb.block k (h.lt k hk).2
theorem OwnC.push {w1 : World} {B : Nat} {v1 : Value} {l : Chs} {p : ByteArray} {x y : Int} (h : w1.ownsRow B 61 3 v1 (l.length + 1) (chCells l ++ [.string p, .int .u32 x, .int .u32 y])) : OwnC w1 B v1 (l ++ [(p, x, y)]) := by
  unfold OwnC
  rw [List.length_append, chCells_snoc]
  exact h
theorem cells_trip (w : World) (u v x : Value) (t : TypeId) : ∀ (j : Nat) y, [u, v, x][j]? = some y → (w.alloc (.cells #[u, v, x] t)).cell? ((⟨w.heap.size, 0, none⟩ : Addr).add j) = some y := by
  intro j y hj
  match j, hj with
  | 0, hj =>
    simp at hj
    subst hj
    show (w.alloc (.cells #[u, v, x] t)).cell? ⟨w.heap.size, 0, none⟩ = _
    rw [World.cell?_alloc_new]
    rfl
  | 1, hj =>
    simp at hj
    subst hj
    rw [show (⟨w.heap.size, 0, none⟩ : Addr).add 1 = ⟨w.heap.size, 1, none⟩ from rfl, World.cell?_alloc_mark]
    rfl
  | 2, hj =>
    simp at hj
    subst hj
    rw [show (⟨w.heap.size, 0, none⟩ : Addr).add 2 = ⟨w.heap.size, 2, none⟩ from rfl, World.cell?_alloc_mark]
    rfl
theorem one_trip (p : ByteArray) (v x : Int) : ∀ u ∈ [Value.string p, .int .u32 v, .int .u32 x], u.oneCell' = true := by
  intro u hu
  simp at hu
  rcases hu with rfl | rfl | rfl <;> rfl
/-- A slice's length. -/
def slLen : Value → Nat
  | .slice _ n _ => n
  | _ => 0
theorem EnAt.tail {w : World} {b off : Nat} {e : ByteArray × Int} {l : Ents} (h : EnAt w (some ⟨b, off, none⟩) (e :: l)) : EnAt w (some ⟨b, off + 2, none⟩) l := fun i hi => by
  obtain ⟨b', off', h1, h0, h2, h3⟩ := h (i + 1) (by simpa using hi)
  cases h1
  exact ⟨b, off + 2, rfl, h0, by rw [show off + 2 + i * 2 = off + (i + 1) * 2 from by omega]; simpa using h2, by rw [show off + 2 + i * 2 = off + (i + 1) * 2 from by omega]; simpa using h3⟩
theorem EnAt.head {w : World} {a : Option Addr} {e : ByteArray × Int} {l : Ents} (h : EnAt w a (e :: l)) : ∃ b off, a = some ⟨b, off, none⟩ ∧ b < w.heap.size ∧ w.cell? ⟨b, off, none⟩ = some (.string e.1) ∧ w.cell? ⟨b, off + 1, none⟩ = some (.int .u32 e.2) := by
  obtain ⟨b, off, h1, h0, h2, h3⟩ := h 0 (by simp)
  exact ⟨b, off, h1, h0, by simpa using h2, by simpa using h3⟩
theorem EnAt.none (w : World) (a : Option Addr) : EnAt w a [] := fun i hi => by simp at hi
end Go.Proofs.Ytplegohebfajlaa
