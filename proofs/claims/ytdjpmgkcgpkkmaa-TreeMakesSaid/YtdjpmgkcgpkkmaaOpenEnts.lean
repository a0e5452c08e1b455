/- What a law's argument reads as: a slice of entries. -/
import Derived.Test.YtdjpmgkcgpkkmaaOpenRows
import Derived.Test.YtdjpmgkcgpkkmaaTrGd
set_option linter.unusedVariables false
set_option linter.unusedSimpArgs false
namespace Go.Proofs.Ytdjpmgkcgpkkmaa
open Go.RowKit Go.ChangeShapes Go.WideShapes Go.Deep

section
variable {H : Type} {enc : TypeId × Value → H} {P : Program} {w : World}
theorem entsOf {t e : TypeId} {f0 f1 : Field} {a : Option Addr} {len cap : Nat} {d : DataW H} {ps : List MemPlace} (ht : P.underlying t = some (.slice e)) (he : P.underlying e = some (.struct #[f0, f1]))
    (hone : oneCellFields P #[f0, f1] = true) (hC : P.cellsOf e = 2) (h0 : P.underlying f0.type = some .string) (h1 : P.underlying f1.type = some (.int .u32))
    (h : DataW.Trod enc P w 0 (fun _ => true) true t (.slice a len cap) d ps) :
    ∃ l : List (ByteArray × Int), l.length = len ∧ len ≤ cap ∧ cap ≤ maxLen ∧ EnAt w a l ∧ Words l := by
  obtain ⟨fuel, hf⟩ := h
  rcases open_slice_fields ht he hone hC hf with ⟨hcs, hx⟩ | ⟨x, l, c, m, D, Pl, hcs, hb, hl, hm, hmm, hx, hi⟩
  · simp [Value.cells] at hcs
    obtain ⟨rfl, rfl, rfl⟩ := hcs
    exact ⟨[], rfl, Nat.le_refl _, Nat.zero_le _, fun i hi => absurd hi (by simp), fun e he => by simp at he⟩
  · simp [Value.cells] at hcs
    obtain ⟨rfl, rfl, rfl⟩ := hcs
    have hmc : m = cap := by simpa using hmm
    subst hmc
    have key : ∀ i, i < m → ∃ o : ByteArray × Int, (w.cell? (x.add (i * 2 + 0)) = some (.string o.1) ∧ w.cell? (x.add (i * 2 + 1)) = some (.int .u32 o.2)) ∧ 0 ≤ o.2 ∧ o.2 < 4294967296 := fun i him => by
      obtain ⟨ys, n, hD, _, hyl, hff⟩ := hi i him
      obtain ⟨v0, y0, c0, g0, t0⟩ := hff 0 f0 rfl
      obtain ⟨v1, y1, c1, g1, t1⟩ := hff 1 f1 rfl
      obtain ⟨z0, e0, rfl, b0⟩ := DataW.trod_string h0 t0
      obtain ⟨z1, e1, rfl, b1⟩ := DataW.trod_int h1 t1
      simp at e0 e1
      subst e0 e1
      have hbd := bounds_u32 b1
      exact ⟨(z0, z1), ⟨c0, c1⟩, by omega, by omega⟩
    obtain ⟨O, hO⟩ : ∃ O : Nat → ByteArray × Int, ∀ i, i < m → (w.cell? (x.add (i * 2 + 0)) = some (.string (O i).1) ∧ w.cell? (x.add (i * 2 + 1)) = some (.int .u32 (O i).2)) ∧ 0 ≤ (O i).2 ∧ (O i).2 < 4294967296 := by
      refine ⟨fun i => if h : i < m then Classical.choose (key i h) else (⟨#[]⟩, 0), fun i hi => ?_⟩
      have := Classical.choose_spec (key i hi)
      simp only [dif_pos hi]
      exact this
    refine ⟨(List.range len).map O, by simp, hl, hm, fun i hi => ?_, fun e he => ?_⟩
    · have hi' : i < len := by simpa using hi
      obtain ⟨⟨q3, q4⟩, _⟩ := hO i (by omega)
      obtain ⟨⟨r3, _⟩, _⟩ := hO 0 (by omega)
      have hx0 := addr_form (x := x) (by simpa using r3)
      rw [hx0, add_form] at q3 q4
      have hg : ((List.range len).map O)[i] = O i := by simp
      rw [hg]
      refine ⟨x.block, x.off, congrArg some hx0, ?_, q3, by rw [Nat.add_assoc]; exact q4⟩
      exact World.block_lt_of_cell? w ⟨x.block, x.off + (i * 2 + 0), none⟩ q3
    · obtain ⟨i, hi, rfl⟩ := List.mem_map.1 he
      have hi' : i < len := List.mem_range.1 hi
      exact (hO i (by omega)).2
end
end Go.Proofs.Ytdjpmgkcgpkkmaa
