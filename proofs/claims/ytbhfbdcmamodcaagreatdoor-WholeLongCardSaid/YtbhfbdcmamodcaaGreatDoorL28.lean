/- Walks of layer 8: rows of entries of one's own; a clone. -/
import Derived.Test.YtbhfbdcmamodcaaGreatDoorL27
import Derived.Deep.AppendLies
set_option linter.unusedVariables false
set_option linter.unusedSimpArgs false
namespace Go.Proofs.YtbhfbdcmamodcaaGreatDoor
open Go.RowKit
theorem infoEntry : (Tryz.prog.info? 86).map (fun i => (i.zero, i.size, i.bytes)) = some (some (.agg #[.string ⟨#[]⟩, .int .u32 0]), 2, 24) := by kernel_rfl
def enCells (l : List (ByteArray × Int)) : List Value := l.flatMap fun e => [.string e.1, .int .u32 e.2]
theorem enCells_len (l : List (ByteArray × Int)) : (enCells l).length = l.length * 2 := by
  induction l with
  | nil => rfl
  | cons x r ih => rw [enCells, List.flatMap_cons, List.length_append]; show 2 + (enCells r).length = (r.length + 1) * 2; omega
theorem enCells_snoc (l : List (ByteArray × Int)) (p : ByteArray) (v : Int) : enCells (l ++ [(p, v)]) = enCells l ++ [.string p, .int .u32 v] := by simp [enCells]
theorem enCells_get (l : List (ByteArray × Int)) : ∀ i (h : i < l.length), (enCells l)[i * 2]? = some (.string l[i].1) ∧ (enCells l)[i * 2 + 1]? = some (.int .u32 l[i].2) := by
  induction l with
  | nil => intro i h; simp at h
  | cons f r ih =>
    intro i h
    match i, h with
    | 0, _ => exact ⟨rfl, rfl⟩
    | i + 1, h =>
      have := ih i (by simpa using h)
      have e : enCells (f :: r) = .string f.1 :: .int .u32 f.2 :: enCells r := rfl
      rw [e, show (i + 1) * 2 = i * 2 + 1 + 1 from by omega]
      simp only [List.getElem?_cons_succ, List.getElem_cons_succ]
      exact this
theorem enCells_one (l : List (ByteArray × Int)) : ∀ u ∈ enCells l, u.oneCell' = true := by
  intro u hu
  rw [enCells, List.mem_flatMap] at hu
  obtain ⟨e, _, he⟩ := hu
  simp at he
  rcases he with rfl | rfl <;> rfl
theorem EnAt.cells {w : World} {b off : Nat} {l : List (ByteArray × Int)} (h : EnAt w (some ⟨b, off, none⟩) l) : ∀ (j : Nat) u, (enCells l)[j]? = some u → w.cell? ((⟨b, off, none⟩ : Addr).add j) = some u := by
  intro j u hj
  have hjl : j < l.length * 2 := by rw [← enCells_len]; exact (List.getElem?_eq_some_iff.1 hj).1
  have hi : j / 2 < l.length := by omega
  obtain ⟨b', off', h1, _, h2, h3⟩ := h (j / 2) hi
  cases h1
  obtain ⟨g0, g1⟩ := enCells_get l (j / 2) hi
  rw [show (⟨b, off, none⟩ : Addr).add j = ⟨b, off + j, none⟩ from by unfold Addr.add; split <;> simp_all]
  rcases Nat.mod_two_eq_zero_or_one j with e | e
  · have ej : j / 2 * 2 = j := by omega
    rw [ej] at g0 h2
    rw [hj] at g0
    rw [h2, Option.some.inj g0]
  · have ej : j / 2 * 2 + 1 = j := by omega
    rw [Nat.add_assoc, ej] at h3
    rw [ej, hj] at g1
    rw [h3, Option.some.inj g1]
theorem en_row {w : World} {B : Nat} {v : Value} {l : List (ByteArray × Int)} (h : w.ownsRow B 86 2 v l.length (enCells l)) : ∃ a c, v = .slice a l.length c ∧ EnAt w a l ∧ l.length ≤ c ∧ c ≤ maxLen := by
  rcases h.2 with ⟨rfl, h0⟩ | ⟨g, cap, cur, rfl, hgb, hh, hnc, hcm, hcs, htake⟩
  · exact ⟨none, 0, by rw [h0], fun i hi => by omega, by omega, by simp [maxLen]⟩
  · refine ⟨_, _, rfl, fun i hi => ?_, hnc, hcm⟩
    obtain ⟨h1, h2⟩ := enCells_get l i hi
    refine ⟨g, 0, rfl, (Array.getElem?_eq_some_iff.1 hh).1, ?_, ?_⟩
    · rw [Nat.zero_add, h.cellAt _ (by omega)]; exact h1
    · rw [Nat.zero_add, h.cellAt _ (by omega)]; exact h2
structure ColE (w wr : World) (v : Value) (l : List (ByteArray × Int)) : Prop where
  row : wr.ownsRow w.heap.size 86 2 v l.length (enCells l)
  bel : Below w.heap.size w wr
theorem ColE.start (w : World) : ColE w w (.slice none 0 0) [] := ⟨World.ownsRow_nil _ _ _ _, Below.refl _ _⟩
end Go.Proofs.YtbhfbdcmamodcaaGreatDoor
