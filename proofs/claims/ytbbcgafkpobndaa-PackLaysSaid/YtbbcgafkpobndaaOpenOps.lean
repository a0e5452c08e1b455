/- What a law's arguments read as: slices of the pack laws' calls. -/
import Derived.Test.YtbbcgafkpobndaaOpenRows
import Derived.Test.YtbbcgafkpobndaaPackR
set_option linter.unusedVariables false
set_option linter.unusedSimpArgs false
namespace Go.Proofs.Ytbbcgafkpobndaa
open Go.RowKit Go.ChangeShapes Go.WideShapes Go.Deep

section
variable {H : Type} {enc : TypeId × Value → H} {P : Program} {w : World}
/-- A slice of calls argument. -/
theorem opsOf {t e : TypeId} {f0 f1 f2 : Field} {a : Option Addr} {len cap : Nat} {d : DataW H} {ps : List MemPlace} (ht : P.underlying t = some (.slice e)) (he : P.underlying e = some (.struct #[f0, f1, f2]))
    (hone : oneCellFields P #[f0, f1, f2] = true) (hC : P.cellsOf e = 3) (h0 : P.underlying f0.type = some (.int .u8)) (h1 : P.underlying f1.type = some (.int .u64)) (h2 : P.underlying f2.type = some .string)
    (h : DataW.Trod enc P w 0 (fun _ => true) true t (.slice a len cap) d ps) :
    ∃ l : List OpD, l.length = len ∧ len ≤ maxLen ∧ OpsAt w a l ∧ ((d = .nil ∧ l = []) ∨ ∃ elems rest, d = .slice elems rest ∧ ∀ i (h : i < l.length), DataW.agg [.lit (.int .u8 l[i].k), .lit (.int .u64 l[i].n), .lit (.string l[i].s.data.toList)] ∈ elems) := by
  obtain ⟨fuel, hf⟩ := h
  rcases open_slice_fields ht he hone hC hf with ⟨hcs, hx⟩ | ⟨x, l, c, m, D, Pl, hcs, hb, hl, hm, hmm, hx, hi⟩
  · simp [Value.cells] at hcs
    obtain ⟨rfl, rfl, rfl⟩ := hcs
    refine ⟨[], rfl, Nat.zero_le _, fun i hi => absurd hi (by simp), .inl ⟨?_, rfl⟩⟩
    simpa using congrArg Prod.fst hx
  · simp [Value.cells] at hcs
    obtain ⟨rfl, rfl, rfl⟩ := hcs
    have hmc : m = cap := by simpa using hmm
    subst hmc
    have key : ∀ i, i < m → ∃ o : OpD, o.k < 256 ∧ o.n < 18446744073709551616 ∧ D i = .agg [.lit (.int .u8 o.k), .lit (.int .u64 o.n), .lit (.string o.s.data.toList)] ∧
        w.cell? (x.add (i * 3 + 0)) = some (.int .u8 o.k) ∧ w.cell? (x.add (i * 3 + 1)) = some (.int .u64 o.n) ∧ w.cell? (x.add (i * 3 + 2)) = some (.string o.s) := fun i him => by
      obtain ⟨ys, n, hD, _, hyl, hff⟩ := hi i him
      obtain ⟨v0, y0, c0, g0, t0⟩ := hff 0 f0 rfl
      obtain ⟨v1, y1, c1, g1, t1⟩ := hff 1 f1 rfl
      obtain ⟨v2, y2, c2, g2, t2⟩ := hff 2 f2 rfl
      obtain ⟨z0, e0, rfl, b0⟩ := DataW.trod_int h0 t0
      obtain ⟨z1, e1, rfl, b1⟩ := DataW.trod_int h1 t1
      obtain ⟨z2, e2, rfl, b2⟩ := DataW.trod_string h2 t2
      simp at e0 e1 e2
      subst e0 e1 e2
      have b0' := bounds_u8 b0
      have b1' := bounds_u64 b1
      obtain ⟨k, rfl⟩ := Int.eq_ofNat_of_zero_le b0'.1
      obtain ⟨n', rfl⟩ := Int.eq_ofNat_of_zero_le b1'.1
      have hys : ys = [(.lit (.int .u8 k), []), (.lit (.int .u64 n'), []), (.lit (.string z2.data.toList), [])] := by
        match ys, hyl with
        | [p0, p1, p2], _ =>
          simp at g0 g1 g2
          rw [g0, g1, g2]
      refine ⟨⟨k, n', z2⟩, by show k < 256; omega, by show n' < _; omega, by rw [hD, hys]; rfl, c0, c1, c2⟩
    obtain ⟨O, hO⟩ : ∃ O : Nat → OpD, ∀ i, i < m → (O i).k < 256 ∧ (O i).n < 18446744073709551616 ∧ D i = .agg [.lit (.int .u8 (O i).k), .lit (.int .u64 (O i).n), .lit (.string (O i).s.data.toList)] ∧
        w.cell? (x.add (i * 3 + 0)) = some (.int .u8 (O i).k) ∧ w.cell? (x.add (i * 3 + 1)) = some (.int .u64 (O i).n) ∧ w.cell? (x.add (i * 3 + 2)) = some (.string (O i).s) := by
      refine ⟨fun i => if h : i < m then Classical.choose (key i h) else ⟨0, 0, ⟨#[]⟩⟩, fun i hi => ?_⟩
      have := Classical.choose_spec (key i hi)
      simp only [dif_pos hi]
      exact this
    refine ⟨(List.range len).map O, by simp, by omega, fun i hi => ?_, .inr ⟨_, _, congrArg Prod.fst hx, fun i hi => ?_⟩⟩
    · have hi' : i < len := by simpa using hi
      obtain ⟨q1, q2, _, q3, q4, q5⟩ := hO i (by omega)
      obtain ⟨_, _, _, r3, _, _⟩ := hO 0 (by omega)
      have hx0 := addr_form (x := x) (by simpa using r3)
      rw [hx0, add_form] at q3 q4 q5
      have hg : ((List.range len).map O)[i] = O i := by simp
      rw [hg]
      exact ⟨q1, q2, x.block, x.off, congrArg some hx0, World.block_lt_of_cell? w ⟨x.block, x.off + (i * 3 + 0), none⟩ q3, q3, by rw [Nat.add_assoc]; exact q4, by rw [Nat.add_assoc]; exact q5⟩
    · have hi' : i < len := by simpa using hi
      have hg : ((List.range len).map O)[i] = O i := by simp
      rw [hg, ← (hO i (by omega)).2.2.1]
      exact List.mem_map.2 ⟨i, by simpa using hi', rfl⟩
end
end Go.Proofs.Ytbbcgafkpobndaa
