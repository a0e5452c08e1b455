/- What a law's argument reads as: a slice of entries; What a law's argument reads as: a slice of steps. -/
import Derived.Test.YtbhfbdcmamodcaaGreatDoorR24
import Derived.Test.YtbhfbdcmamodcaaGreatDoorR31
import Derived.Test.YtbhfbdcmamodcaaGreatDoorR18
import Derived.Test.YtbhfbdcmamodcaaGreatDoorR05
set_option linter.unusedVariables false
set_option linter.unusedSimpArgs false
namespace Go.Proofs.YtbhfbdcmamodcaaGreatDoor
open Go.RowKit Go.ChangeShapes Go.WideShapes Go.Deep
section
variable {H : Type} {enc : TypeId × Value → H} {P : Program} {w : World}
theorem entsOf {t e : TypeId} {f0 f1 : Field} {a : Option Addr} {len cap : Nat} {d : DataW H} {ps : List MemPlace} (ht : P.underlying t = some (.slice e)) (he : P.underlying e = some (.struct #[f0, f1]))
    (hone : oneCellFields P #[f0, f1] = true) (hC : P.cellsOf e = 2) (h0 : P.underlying f0.type = some .string) (h1 : P.underlying f1.type = some (.int .u32))
    (h : DataW.Trod enc P w 0 (fun _ => true) true t (.slice a len cap) d ps) :
    ∃ l : List (ByteArray × Int), l.length = len ∧ len ≤ cap ∧ cap ≤ maxLen ∧ EnAt w a l ∧ Words l := by
  obtain ⟨fuel, hf⟩ := h
  rcases open_slice_fields ht he hone hC hf with ⟨hcs, hx⟩ | ⟨x, l, c, m, D, Pl, hcs, hb, hl, hm, hmm, hx, hi⟩
  · simp [Value.cells] at hcs
    obtain ⟨rfl, rfl, rfl⟩ := hcs
    exact ⟨[], rfl, Nat.le_refl _, Nat.zero_le _, fun i hi => absurd hi (by simp), fun e he => by simp at he⟩
  · simp [Value.cells] at hcs
    obtain ⟨rfl, rfl, rfl⟩ := hcs
    have hmc : m = cap := by simpa using hmm
    subst hmc
    have key : ∀ i, i < m → ∃ o : ByteArray × Int, (w.cell? (x.add (i * 2 + 0)) = some (.string o.1) ∧ w.cell? (x.add (i * 2 + 1)) = some (.int .u32 o.2)) ∧ 0 ≤ o.2 ∧ o.2 < 4294967296 := fun i him => by
      obtain ⟨ys, n, hD, _, hyl, hff⟩ := hi i him
      obtain ⟨v0, y0, c0, g0, t0⟩ := hff 0 f0 rfl
      obtain ⟨v1, y1, c1, g1, t1⟩ := hff 1 f1 rfl
      obtain ⟨z0, e0, rfl, b0⟩ := DataW.trod_string h0 t0
      obtain ⟨z1, e1, rfl, b1⟩ := DataW.trod_int h1 t1
      simp at e0 e1
      subst e0 e1
      have hbd := bounds_u32 b1
      exact ⟨(z0, z1), ⟨c0, c1⟩, by omega, by omega⟩
    obtain ⟨O, hO⟩ : ∃ O : Nat → ByteArray × Int, ∀ i, i < m → (w.cell? (x.add (i * 2 + 0)) = some (.string (O i).1) ∧ w.cell? (x.add (i * 2 + 1)) = some (.int .u32 (O i).2)) ∧ 0 ≤ (O i).2 ∧ (O i).2 < 4294967296 := by
      refine ⟨fun i => if h : i < m then Classical.choose (key i h) else (⟨#[]⟩, 0), fun i hi => ?_⟩
      have := Classical.choose_spec (key i hi)
      simp only [dif_pos hi]
      exact this
    refine ⟨(List.range len).map O, by simp, hl, hm, fun i hi => ?_, fun e he => ?_⟩
    · have hi' : i < len := by simpa using hi
      obtain ⟨⟨q3, q4⟩, _⟩ := hO i (by omega)
      obtain ⟨⟨r3, _⟩, _⟩ := hO 0 (by omega)
      have hx0 := addr_form (x := x) (by simpa using r3)
      rw [hx0, add_form] at q3 q4
      have hg : ((List.range len).map O)[i] = O i := by simp
      rw [hg]
      refine ⟨x.block, x.off, congrArg some hx0, ?_, q3, by rw [Nat.add_assoc]; exact q4⟩
      exact World.block_lt_of_cell? w ⟨x.block, x.off + (i * 2 + 0), none⟩ q3
    · obtain ⟨i, hi, rfl⟩ := List.mem_map.1 he
      have hi' : i < len := List.mem_range.1 hi
      exact (hO i (by omega)).2
end
end Go.Proofs.YtbhfbdcmamodcaaGreatDoor
namespace Go.Proofs.YtbhfbdcmamodcaaGreatDoor
open Go.RowKit Go.ChangeShapes Go.WideShapes Go.Deep
structure StepP where
  tv : Value
  pv : Value
  tree : List (ByteArray × Int)
  pars : List Int
  idx : Int
  nm : Int
  at_ : Int
def stepC (y : StepP) : List Value := [y.tv, y.pv, .int .u8 y.idx, .int .u8 y.nm, .int .u16 y.at_]
theorem stepW : Wide stepC 5 := fun _ => rfl
structure StepOk (w : World) (y : StepP) : Prop where
  tree : ∃ a c, y.tv = .slice a y.tree.length c ∧ y.tree.length ≤ c ∧ c ≤ maxLen ∧ EnAt w a y.tree ∧ Words y.tree
  pars : ∃ a c, y.pv = .slice a y.pars.length c ∧ y.pars.length ≤ c ∧ c ≤ maxLen ∧ IntsAt w .u8 a y.pars
  idx : 0 ≤ y.idx ∧ y.idx < 256
section
variable {H : Type} {enc : TypeId × Value → H} {P : Program} {w : World}
theorem bytesOf8 {t e : TypeId} {fuel : Nat} {v : Value} {x : DataW H × List MemPlace} (ht : P.underlying t = some (.slice e)) (he : P.underlying e = some (.int .u8)) (hc : P.cellsOf e = 1)
    (hf : DataW.trod enc P w 0 (fun _ => true) true fuel t [v] = some x) : ∃ (zs : List Int) (a : Option Addr) (c : Nat), v = .slice a zs.length c ∧ zs.length ≤ c ∧ c ≤ maxLen ∧ IntsAt w .u8 a zs := by
  rcases open_ints ht he hc hf with ⟨hcs, hx⟩ | ⟨x, l, c, zs, hcs, _, hl, hm, hz, hx, hcell, hws⟩
  · simp at hcs
    subst hcs
    exact ⟨[], none, 0, rfl, Nat.le_refl _, Nat.zero_le _, fun i hi => absurd hi (by simp)⟩
  · simp at hcs
    subst hcs
    simp at hz
    have hll : (zs.take l).length = l := by simp; omega
    refine ⟨zs.take l, some x, c, by rw [hll], by omega, by omega, fun i hi => ?_⟩
    have hi' : i < l := by simp at hi; omega
    have h0 := addr_form (hcell 0 (by omega))
    have hci := hcell i (by omega)
    rw [h0, add_form] at hci
    have hg : (zs.take l)[i] = zs.getD i 0 := by
      rw [List.getElem_take, List.getD_eq_getElem?_getD, List.getElem?_eq_getElem (by omega)]; rfl
    refine ⟨hws _ (by rw [List.getElem_take]; exact List.getElem_mem _), x.block, x.off, congrArg some h0, ?_⟩
    rw [hg]
    exact hci
theorem entsOf8 {t e : TypeId} {f0 f1 : Field} {fuel : Nat} {v : Value} {x : DataW H × List MemPlace} (ht : P.underlying t = some (.slice e)) (he : P.underlying e = some (.struct #[f0, f1]))
    (hone : oneCellFields P #[f0, f1] = true) (hC : P.cellsOf e = 2) (h0 : P.underlying f0.type = some .string) (h1 : P.underlying f1.type = some (.int .u32))
    (hf : DataW.trod enc P w 0 (fun _ => true) true fuel t [v] = some x) : ∃ (l : List (ByteArray × Int)) (a : Option Addr) (c : Nat), v = .slice a l.length c ∧ l.length ≤ c ∧ c ≤ maxLen ∧ EnAt w a l ∧ Words l := by
  have hv : ∃ a n c, v = .slice a n c := by
    rcases open_slice_fields ht he hone hC hf with ⟨hcs, _⟩ | ⟨x, l, c, m, D, Pl, hcs, _⟩
    · simp at hcs; exact ⟨_, _, _, hcs⟩
    · simp at hcs; exact ⟨_, _, _, hcs⟩
  obtain ⟨a, n, c, rfl⟩ := hv
  obtain ⟨l, e1, e2, e3, e4, e5⟩ := entsOf (a := a) (len := n) (cap := c) (d := x.1) (ps := x.2) ht he hone hC h0 h1 ⟨fuel, hf⟩
  subst e1
  exact ⟨l, a, c, rfl, e2, e3, e4, e5⟩
theorem stepsOf {t e eT eP : TypeId} {f0 f1 f2 f3 f4 g0 g1 : Field} {a : Option Addr} {len cap : Nat} {d : DataW H} {ps : List MemPlace} (ht : P.underlying t = some (.slice e)) (he : P.underlying e = some (.struct #[f0, f1, f2, f3, f4]))
    (hone : oneCellFields P #[f0, f1, f2, f3, f4] = true) (hC : P.cellsOf e = 5) (h0 : P.underlying f0.type = some (.slice eT)) (heT : P.underlying eT = some (.struct #[g0, g1])) (honeT : oneCellFields P #[g0, g1] = true) (hCT : P.cellsOf eT = 2) (hg0 : P.underlying g0.type = some .string) (hg1 : P.underlying g1.type = some (.int .u32))
    (h1 : P.underlying f1.type = some (.slice eP)) (heP : P.underlying eP = some (.int .u8)) (hCP : P.cellsOf eP = 1) (h2 : P.underlying f2.type = some (.int .u8)) (h3 : P.underlying f3.type = some (.int .u8)) (h4 : P.underlying f4.type = some (.int .u16))
    (h : DataW.Trod enc P w 0 (fun _ => true) true t (.slice a len cap) d ps) :
    ∃ l : List StepP, l.length = len ∧ len ≤ cap ∧ cap ≤ maxLen ∧ CellsAt w a (l.flatMap stepC) ∧ ∀ y ∈ l, StepOk w y := by
  obtain ⟨fuel, hf⟩ := h
  rcases open_slice_fields ht he hone hC hf with ⟨hcs, hx⟩ | ⟨x, l, c, m, D, Pl, hcs, hb, hl, hm, hmm, hx, hi⟩
  · simp [Value.cells] at hcs
    obtain ⟨rfl, rfl, rfl⟩ := hcs
    exact ⟨[], rfl, Nat.le_refl _, Nat.zero_le _, CellsAt.nil _ _, fun e he => by simp at he⟩
  · simp [Value.cells] at hcs
    obtain ⟨rfl, rfl, rfl⟩ := hcs
    have hmc : m = cap := by simpa using hmm
    subst hmc
    have key : ∀ i, i < m → ∃ o : StepP, (∀ (j : Nat) (hj : j < (stepC o).length), w.cell? (x.add (i * 5 + j)) = some (stepC o)[j]) ∧ StepOk w o := fun i him => by
      obtain ⟨ys, n, hD, _, hyl, hff⟩ := hi i him
      obtain ⟨v0, y0, c0, _, t0⟩ := hff 0 f0 rfl
      obtain ⟨v1, y1, c1, _, t1⟩ := hff 1 f1 rfl
      obtain ⟨v2, y2, c2, _, t2⟩ := hff 2 f2 rfl
      obtain ⟨v3, y3, c3, _, t3⟩ := hff 3 f3 rfl
      obtain ⟨v4, y4, c4, _, t4⟩ := hff 4 f4 rfl
      obtain ⟨z2, e2, _, b2⟩ := DataW.trod_int h2 t2
      obtain ⟨z3, e3, _, b3⟩ := DataW.trod_int h3 t3
      obtain ⟨z4, e4, _, b4⟩ := DataW.trod_int h4 t4
      simp at e2 e3 e4
      subst e2 e3 e4
      obtain ⟨tl, ta, tc, rfl, k1, k2, k3, k4⟩ := entsOf8 h0 heT honeT hCT hg0 hg1 t0
      obtain ⟨pl, pa, pc, rfl, m1, m2, m3⟩ := bytesOf8 h1 heP hCP t1
      have hbd := bounds_u8 b2
      refine ⟨⟨.slice ta tl.length tc, .slice pa pl.length pc, tl, pl, z2, z3, z4⟩, fun j hj => ?_, ⟨⟨ta, tc, rfl, k1, k2, k3, k4⟩, ⟨pa, pc, rfl, m1, m2, m3⟩, show 0 ≤ z2 by omega, show z2 < 256 by omega⟩⟩
      match j, hj with
      | 0, _ => exact c0
      | 1, _ => exact c1
      | 2, _ => exact c2
      | 3, _ => exact c3
      | 4, _ => exact c4
    obtain ⟨O, hO⟩ : ∃ O : Nat → StepP, ∀ i, i < m → (∀ (j : Nat) (hj : j < (stepC (O i)).length), w.cell? (x.add (i * 5 + j)) = some (stepC (O i))[j]) ∧ StepOk w (O i) := by
      refine ⟨fun i => if h : i < m then Classical.choose (key i h) else ⟨.slice none 0 0, .slice none 0 0, [], [], 0, 0, 0⟩, fun i hi => ?_⟩
      have := Classical.choose_spec (key i hi)
      simp only [dif_pos hi]
      exact this
    refine ⟨(List.range len).map O, by simp, hl, hm, fun j v hj => ?_, fun e he => ?_⟩
    · have hjl := (List.getElem?_eq_some_iff.1 hj).1
      rw [flat_length stepW, List.length_map, List.length_range] at hjl
      obtain ⟨i, hi⟩ : ∃ i, j / 5 = i := ⟨_, rfl⟩
      obtain ⟨q, hq⟩ : ∃ q, j % 5 = q := ⟨_, rfl⟩
      have hji : j = i * 5 + q := by omega
      have hil : i < len := by omega
      have hq5 : q < 5 := by omega
      subst hji
      rw [flat_get stepW _ i (by simpa using hil) q hq5] at hj
      have hg : ((List.range len).map O)[i]'(by simpa using hil) = O i := by simp
      rw [hg] at hj
      obtain ⟨hql, hqe⟩ := List.getElem?_eq_some_iff.1 hj
      have hc := (hO i (by omega)).1 q hql
      have hc0 := (hO 0 (by omega)).1 0 (by show 0 < 5; decide)
      have hx0 := addr_form (x := x) (by simpa using hc0)
      rw [hx0, add_form, hqe] at hc
      exact ⟨x.block, x.off, congrArg some hx0, World.block_lt_of_cell? w ⟨x.block, x.off + (i * 5 + q), none⟩ hc, hc⟩
    · obtain ⟨i, hi, rfl⟩ := List.mem_map.1 he
      exact (hO i (by have := List.mem_range.1 hi; omega)).2
theorem StepOk.below {w' : World} {y : StepP} (h : StepOk w y) (hb : Below w.heap.size w w') : StepOk w' y := by
  obtain ⟨⟨a, c, h1, h2, h3, h4, h5⟩, ⟨a', c', k1, k2, k3, k4⟩, h6⟩ := h
  exact ⟨⟨a, c, h1, h2, h3, h4.below hb, h5⟩, ⟨a', c', k1, k2, k3, k4.below hb (Nat.le_refl _)⟩, h6⟩
end
end Go.Proofs.YtbhfbdcmamodcaaGreatDoor
