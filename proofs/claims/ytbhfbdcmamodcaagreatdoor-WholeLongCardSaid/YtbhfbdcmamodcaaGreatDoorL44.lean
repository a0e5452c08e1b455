/- The whole: a row's parents are read; The whole: what stands while a graph file is read; The whole: what stands while a row is read; The whole: the chunks of a graph file are read; The whole: many parents are read. -/
import Derived.Test.YtbhfbdcmamodcaaGreatDoorL43
import Derived.Laws.BitsAllLaws
import Derived.Deep.Cut
set_option linter.unusedVariables false
set_option linter.unusedSimpArgs false
namespace Go.Proofs.YtbhfbdcmamodcaaGreatDoor
open Go.RowKit PackMath SumMath
theorem noMark2 (x : Nat) (h : x < 2147483648) : bits .andNot .u32 ((x + 2147483648 : Nat) : Int) 2147483648 = (x : Int) := by
  have := u32_andNot_nat (x + 2147483648) 2147483648 (by omega) (by decide)
  rw [show (4294967295 - 2147483648 : Nat) = 2 ^ 31 - 1 from rfl, Nat.and_two_pow_sub_one_eq_mod, show (x + 2147483648) % 2 ^ 31 = x from by omega] at this
  exact this
def ParSaid (ps : List Nat) (w : World) (e : Ending) (w' : World) : Prop := ∃ v, e = .returned v ∧ OwnX 3 1 natV w' w.heap.size v ps ∧ Below w.heap.size w w'
end Go.Proofs.YtbhfbdcmamodcaaGreatDoor
namespace Go.Proofs.YtbhfbdcmamodcaaGreatDoor
open Go.RowKit PackMath SumMath
def RowsOwn (w : World) (B T : Nat) (v : Value) (rows : List RowP) : Prop := ∃ L : List (Value × RowP), L.map Prod.snd = rows ∧ OwnX 188 5 rowC w B v L ∧ (∀ g, v.ownBlock = some g → g < T) ∧
  ∀ x ∈ L, ∃ a c, x.1 = .slice a x.2.parents.length c ∧ CellsAt w a (x.2.parents.flatMap natV) ∧ x.2.parents.length ≤ c ∧ c ≤ maxLen ∧ (a = none → c = 0) ∧ ∀ b off, a = some ⟨b, off, none⟩ → B ≤ b ∧ b < T ∧ b < w.heap.size ∧ v.ownBlock ≠ some b
theorem RowsOwn.nil (w : World) (B T : Nat) : RowsOwn w B T (.slice none 0 0) [] := ⟨[], rfl, OwnX.nil _ _ _ _ _, fun g e => by simp [Value.ownBlock] at e, fun x hx => by simp at hx⟩
theorem RowsOwn.at {w : World} {B T : Nat} {v : Value} {rows : List RowP} (h : RowsOwn w B T v rows) : ∃ a c, v = .slice a rows.length c ∧ RowsAt w a rows ∧ rows.length ≤ c ∧ c ≤ maxLen := by
  obtain ⟨L, rfl, h2, _, h4⟩ := h
  obtain ⟨a, c, h5, h6, h7, h8, _⟩ := h2.sl
  rw [List.length_map]
  exact ⟨a, c, h5, ⟨L, rfl, h6, fun x hx => by obtain ⟨a', c', k1, k2, k3, k4, k5, _⟩ := h4 x hx; exact ⟨a', c', k1, k2, k3, k4, k5⟩⟩, h7, h8⟩
theorem RowsOwn.mono {w : World} {B T T' : Nat} {v : Value} {rows : List RowP} (h : RowsOwn w B T v rows) (hT : T ≤ T') : RowsOwn w B T' v rows := by
  obtain ⟨L, h1, h2, h3, h4⟩ := h
  refine ⟨L, h1, h2, fun g e => Nat.lt_of_lt_of_le (h3 g e) hT, fun x hx => ?_⟩
  obtain ⟨a, c, k1, k2, k3, k4, k5, k6⟩ := h4 x hx
  exact ⟨a, c, k1, k2, k3, k4, k5, fun b off e => by obtain ⟨m1, m2, m3⟩ := k6 b off e; exact ⟨m1, Nat.lt_of_lt_of_le m2 hT, m3⟩⟩
theorem RowsOwn.upd {F : Foot} {w x : World} {B T : Nat} {v : Value} {rows : List RowP} (h : RowsOwn w B T v rows) (hu : Upd F w x) (hF : ∀ k, F k → k < B ∨ T ≤ k) : RowsOwn x B T v rows := by
  obtain ⟨L, h1, h2, h3, h4⟩ := h
  refine ⟨L, h1, h2.stays fun g e => hu.block g (h2.lt g e).2 (fun f => by have := hF g f; have := (h2.lt g e).1; have := h3 g e; omega), h3, fun x hx => ?_⟩
  obtain ⟨a, c, k1, k2, k3, k4, k5, k6⟩ := h4 x hx
  refine ⟨a, c, k1, k2.stays (fun b off e _ => ?_) hu.size, k3, k4, k5, fun b off e => ?_⟩
  · obtain ⟨m1, m2, m3, _⟩ := k6 b off e
    exact hu.block b m3 (fun f => by have := hF b f; omega)
  · obtain ⟨m1, m2, m3, m4⟩ := k6 b off e
    exact ⟨m1, m2, Nat.lt_of_lt_of_le m3 hu.size, m4⟩
theorem RowsOwn.push {w w1 : World} {B T gg cap n : Nat} {v pv : Value} {rows : List RowP} {r : RowP} {P : Nat} (h : RowsOwn w B T v rows) (hB : B ≤ T) (hT : T ≤ P) (hp : OwnX 3 1 natV w P pv r.parents) {o : Obj}
    (hown : w1.ownsRow B 188 5 (.slice (some ⟨gg, 0, none⟩) (n + 1) cap) (n + 1) ((Classical.choose h).flatMap rowC ++ rowC (pv, r))) (hn : n = rows.length) (hg : (w.alloc o).grownBy w1 v.ownBlock) (hat : v.ownBlock = some gg ∨ gg = w.heap.size + 1) (hlt : gg < w1.heap.size) :
    RowsOwn w1 B w1.heap.size (.slice (some ⟨gg, 0, none⟩) (n + 1) cap) (rows ++ [r]) := by
  obtain ⟨h1, h2, h3, h4⟩ := Classical.choose_spec h
  generalize Classical.choose h = L at *
  subst hn
  obtain ⟨pa, pc, hpv, hpc, hp1, hp2, hp3, hp4⟩ := hp.sl
  have hz : w.heap.size + 1 ≤ w1.heap.size := Nat.le_trans (by simp) hg.size
  have hbp : ∀ b off, pa = some ⟨b, off, none⟩ → P ≤ b ∧ b < w.heap.size := fun b off e => hp.lt b (hp3 b off e)
  refine ⟨L ++ [(pv, r)], by rw [List.map_append, h1]; rfl, OwnX.push (m := [(pv, r)]) hown ?_ (by simp), fun g e => by cases e; exact hlt, fun x hx => ?_⟩
  · rw [← h1, List.length_map]; rfl
  · have hst : ∀ b, b < w.heap.size → some b ≠ v.ownBlock → w1.heap[b]? = w.heap[b]? := fun b hb hne => by
      rw [hg.block b (by simp; omega) hne, Below.heap_alloc _ _ _ hb]
    rcases List.mem_append.1 hx with hx | hx
    · obtain ⟨a, c, k1, k2, k3, k4, k5, k6⟩ := h4 x hx
      refine ⟨a, c, k1, k2.stays (fun b off e _ => ?_) (by omega), k3, k4, k5, fun b off e => ?_⟩
      · obtain ⟨m1, m2, m3, m4⟩ := k6 b off e
        exact hst b m3 (Ne.symm m4)
      · obtain ⟨m1, m2, m3, m4⟩ := k6 b off e
        refine ⟨m1, by omega, by omega, fun e2 => ?_⟩
        have e3 : gg = b := by simpa [Value.ownBlock] using e2
        subst e3
        rcases hat with h | h
        · exact m4 h
        · omega
    · rw [List.mem_singleton.1 hx]
      refine ⟨pa, pc, hpv, hpc.stays (fun b off e _ => ?_) (by omega), hp1, hp2, fun e => ?_, fun b off e => ?_⟩
      · obtain ⟨m1, m2⟩ := hbp b off e
        exact hst b m2 (fun e2 => by have := h3 b e2.symm; omega)
      · subst e
        have hl := hp4 rfl
        rcases hp.2 with ⟨hv, _⟩ | ⟨g, cp, cur, hv, _⟩
        · rw [hpv] at hv; exact (Value.slice.inj hv).2.2
        · rw [hpv] at hv; exact absurd (Value.slice.inj hv).1 (by simp)
      · obtain ⟨m1, m2⟩ := hbp b off e
        refine ⟨by omega, by omega, by omega, fun e2 => ?_⟩
        have e3 : gg = b := by simpa [Value.ownBlock] using e2
        subst e3
        rcases hat with h | h
        · have := h3 _ h; omega
        · omega
structure RdSt (w0 w : World) (gb p1 p2 p3 p4 : Nat) (r1 r2 r3 r4 : List UInt8) (gc : Array Value) : Prop where
  a1 : RP w p1 r1
  a2 : RP w p2 r2
  a3 : RP w p3 r3
  a4 : RP w p4 r4
  box : w.heap[gb]? = some (.cells gc 103 (0, 0))
  res : ∃ gz, w.heap[w0.heap.size]? = some (.cells gz 103 (0, 0)) ∧ gz.size = 6
  lo : w0.heap.size < gb ∧ gb < p1 ∧ p1 < p2 ∧ p2 < p3 ∧ p3 < p4
  bel : Below w0.heap.size w0 w
section
variable {w0 w x : World} {gb p1 p2 p3 p4 : Nat} {r1 r2 r3 r4 : List UInt8} {gc : Array Value}
theorem RdSt.lt (h : RdSt w0 w gb p1 p2 p3 p4 r1 r2 r3 r4 gc) : p4 < w.heap.size := h.a4.lt
theorem RdSt.upd {F : Foot} (h : RdSt w0 w gb p1 p2 p3 p4 r1 r2 r3 r4 gc) (hu : Upd F w x) (hF : ∀ k, F k → p4 < k) : RdSt w0 x gb p1 p2 p3 p4 r1 r2 r3 r4 gc := by
  obtain ⟨l0, l1, l2, l3, l4⟩ := h.lo
  have hl := h.lt
  obtain ⟨gz, hz1, hz2⟩ := h.res
  exact ⟨h.a1.upd hu (fun e => by have := hF _ e; omega), h.a2.upd hu (fun e => by have := hF _ e; omega), h.a3.upd hu (fun e => by have := hF _ e; omega), h.a4.upd hu (fun e => by have := hF _ e; omega),
    (hu.block gb (by omega) (fun e => by have := hF _ e; omega)).trans h.box, ⟨gz, (hu.block _ (by omega) (fun e => by have := hF _ e; omega)).trans hz1, hz2⟩, h.lo, h.bel.trans (hu.below (fun i e => by have := hF i e; omega) h.bel.size)⟩
theorem RdSt.put (h : RdSt w0 w gb p1 p2 p3 p4 r1 r2 r3 r4 gc) (i : Nat) (v : Value) : RdSt w0 (w.setCell ⟨gb, i, none⟩ v) gb p1 p2 p3 p4 r1 r2 r3 r4 (gc.setIfInBounds i v) := by
  obtain ⟨l0, l1, l2, l3, l4⟩ := h.lo
  have hu : Upd (· = gb) w (w.setCell ⟨gb, i, none⟩ v) := (Upd.refl _ w).set gb i v (.inl rfl)
  obtain ⟨gz, hz1, hz2⟩ := h.res
  exact ⟨h.a1.upd hu (by omega), h.a2.upd hu (by omega), h.a3.upd hu (by omega), h.a4.upd hu (by omega), heap_setCell_same w gb i _ _ v h.box, ⟨gz, (heap_setCell_other _ _ _ _ (Nat.ne_of_lt l0)).trans hz1, hz2⟩, h.lo, h.bel.trans (hu.below (fun k e => by have : k = gb := e; omega) h.bel.size)⟩
theorem RdSt.cell (h : RdSt w0 w gb p1 p2 p3 p4 r1 r2 r3 r4 gc) (i : Nat) : w.cell? ⟨gb, i, none⟩ = gc[i]? ∧ w.frozen? ⟨gb, i, none⟩ = false :=
  ⟨cell_of_row _ _ _ _ _ _ h.box, frozen_of_row _ _ _ _ _ h.box⟩
end
end Go.Proofs.YtbhfbdcmamodcaaGreatDoor
namespace Go.Proofs.YtbhfbdcmamodcaaGreatDoor
open Go.RowKit PackMath SumMath
theorem RowsOwn.row {w : World} {B T k : Nat} {v : Value} {rows : List RowP} (h : RowsOwn w B T v rows) (hk : rows.length = k) : w.ownsRow B 188 5 v k ((Classical.choose h).flatMap rowC) := by
  have h1 := (Classical.choose_spec h).1
  have h2 : w.ownsRow B 188 5 v (Classical.choose h).length ((Classical.choose h).flatMap rowC) := (Classical.choose_spec h).2.1
  have hl : (Classical.choose h).length = k := by
    have h3 := congrArg List.length h1
    rw [List.length_map] at h3
    omega
  rw [hl] at h2
  exact h2
theorem RowsOwn.low {w : World} {B C T : Nat} {v : Value} {rows : List RowP} (h : RowsOwn w B T v rows) (hC : C ≤ B) : RowsOwn w C T v rows := by
  obtain ⟨L, h1, h2, h3, h4⟩ := h
  refine ⟨L, h1, h2.mono hC, h3, fun x hx => ?_⟩
  obtain ⟨a, c, k1, k2, k3, k4, k5, k6⟩ := h4 x hx
  exact ⟨a, c, k1, k2, k3, k4, k5, fun b off e => by obtain ⟨m1, m2⟩ := k6 b off e; exact ⟨by omega, m2⟩⟩
structure RowSt (w0 w : World) (gb p1 p2 p3 p4 : Nat) (r1 r2 r3 r4 : List UInt8) (gc : Array Value) (q : Nat) (v : Value) (rows : List RowP) (bx : Array Value) (P : Nat) (pv : Value) (ps : List Nat) : Prop where
  st : RdSt w0 w gb p1 p2 p3 p4 r1 r2 r3 r4 gc
  ro : RowsOwn w (p4 + 1) q v rows
  box : w.heap[q]? = some (.cells bx 188 (0, 0))
  q4 : p4 < q
  pr : OwnX 3 1 natV w P pv ps
  qP : q < P
section
variable {w0 w x : World} {gb p1 p2 p3 p4 : Nat} {r1 r2 r3 r4 : List UInt8} {gc : Array Value} {q : Nat} {v : Value} {rows : List RowP} {bx : Array Value} {P : Nat} {pv : Value} {ps : List Nat}
theorem RowSt.lt (h : RowSt w0 w gb p1 p2 p3 p4 r1 r2 r3 r4 gc q v rows bx P pv ps) : q < w.heap.size := (Array.getElem?_eq_some_iff.1 h.box).1
theorem RowSt.start (h : RdSt w0 w gb p1 p2 p3 p4 r1 r2 r3 r4 gc) (hr : RowsOwn w (p4 + 1) w.heap.size v rows) (bx : Array Value) : RowSt w0 (w.alloc (.cells bx 188)) gb p1 p2 p3 p4 r1 r2 r3 r4 gc w.heap.size v rows bx (w.heap.size + 1) (.slice none 0 0) [] := by
  have hb := bl_alloc (Below.refl _ w) (.cells bx 188)
  exact ⟨h.upd (Upd.of (F := fun _ => False) hb) (fun _ e => e.elim), hr.upd (Upd.of (F := fun _ => False) hb) (fun _ e => e.elim), heap_alloc_new w _, h.lt, OwnX.nil _ _ _ _ _, Nat.lt_succ_self _⟩
theorem RowSt.put (h : RowSt w0 w gb p1 p2 p3 p4 r1 r2 r3 r4 gc q v rows bx P pv ps) (i : Nat) (u : Value) : RowSt w0 (w.setCell ⟨q, i, none⟩ u) gb p1 p2 p3 p4 r1 r2 r3 r4 gc q v rows (bx.setIfInBounds i u) P pv ps := by
  have hu : Upd (· = q) w (w.setCell ⟨q, i, none⟩ u) := (Upd.refl _ w).set q i u (.inl rfl)
  have hq := h.q4
  have hP := h.qP
  exact ⟨h.st.upd hu (fun k e => by have : k = q := e; omega), h.ro.upd hu (fun k e => by have : k = q := e; omega), heap_setCell_same w q i _ _ u h.box, h.q4, h.pr.stays fun g e => hu.block g (h.pr.lt g e).2 (fun f => by have : g = q := f; have := (h.pr.lt g e).1; omega), h.qP⟩
theorem RowSt.cell (h : RowSt w0 w gb p1 p2 p3 p4 r1 r2 r3 r4 gc q v rows bx P pv ps) (i : Nat) : w.cell? ⟨q, i, none⟩ = bx[i]? ∧ w.frozen? ⟨q, i, none⟩ = false :=
  ⟨cell_of_row _ _ _ _ _ _ h.box, frozen_of_row _ _ _ _ _ h.box⟩
theorem RowSt.par {qs : List Nat} {u : Value} (h : RowSt w0 w gb p1 p2 p3 p4 r1 r2 r3 r4 gc q v rows bx P pv ps) (hb : Below w.heap.size w x) (ho : OwnX 3 1 natV x w.heap.size u qs) : RowSt w0 x gb p1 p2 p3 p4 r1 r2 r3 r4 gc q v rows bx w.heap.size u qs :=
  ⟨h.st.upd (Upd.of (F := fun _ => False) hb) (fun _ e => e.elim), h.ro.upd (Upd.of (F := fun _ => False) hb) (fun _ e => e.elim), (hb.block q h.lt).trans h.box, h.q4, ho, h.lt⟩
theorem RowSt.done {w1 : World} {gg cap n : Nat} {r : RowP} (h : RowSt w0 w gb p1 p2 p3 p4 r1 r2 r3 r4 gc q v rows bx P pv r.parents) {o : Obj}
    (hown : w1.ownsRow (p4 + 1) 188 5 (.slice (some ⟨gg, 0, none⟩) (n + 1) cap) (n + 1) ((Classical.choose h.ro).flatMap rowC ++ rowC (pv, r))) (hn : n = rows.length) (hg : (w.alloc o).grownBy w1 v.ownBlock) (hat : v.ownBlock = some gg ∨ gg = (w.alloc o).heap.size) (hlt : gg < w1.heap.size) :
    RdSt w0 (w1.setCell ⟨gb, 5, none⟩ (.slice (some ⟨gg, 0, none⟩) (n + 1) cap)) gb p1 p2 p3 p4 r1 r2 r3 r4 (gc.setIfInBounds 5 (.slice (some ⟨gg, 0, none⟩) (n + 1) cap)) ∧ RowsOwn (w1.setCell ⟨gb, 5, none⟩ (.slice (some ⟨gg, 0, none⟩) (n + 1) cap)) (p4 + 1) (w1.setCell ⟨gb, 5, none⟩ (.slice (some ⟨gg, 0, none⟩) (n + 1) cap)).heap.size (.slice (some ⟨gg, 0, none⟩) (n + 1) cap) (rows ++ [r]) := by
  obtain ⟨l0, l1, l2, l3, l4⟩ := h.st.lo
  have hq := h.q4
  have hro := (Classical.choose_spec h.ro).2.1
  have hu : Upd (fun k => p4 < k) w w1 := ((Upd.refl _ w).alloc o).grown hg (fun g e => .inl (by have := (hro.lt g e).1; omega))
  have h1 := h.ro.push (by omega) (Nat.le_of_lt h.qP) h.pr hown hn hg (hat.imp id (fun e => by rw [e]; simp)) hlt
  have h2 : Upd (· = gb) w1 (w1.setCell ⟨gb, 5, none⟩ (.slice (some ⟨gg, 0, none⟩) (n + 1) cap)) := (Upd.refl _ w1).set gb 5 _ (.inl rfl)
  refine ⟨(h.st.upd hu (fun _ e => e)).put 5 _, ?_⟩
  have h3 := h1.upd h2 (fun k e => by have : k = gb := e; omega)
  exact h3.mono h2.size
end
end Go.Proofs.YtbhfbdcmamodcaaGreatDoor
namespace Go.Proofs.YtbhfbdcmamodcaaGreatDoor
open Go.RowKit PackMath SumMath
theorem ParSaid.sl {ps : List Nat} {f : FuncId} {args : Array Value} {w : World} (h : Calls Tryz.prog f args w (ParSaid ps w)) : Calls Tryz.prog f args w fun e w' => ∃ pa pc, e = .returned (.slice pa ps.length pc) ∧ OwnX 3 1 natV w' w.heap.size (.slice pa ps.length pc) ps ∧ Below w.heap.size w w' :=
  h.mono fun e w' ⟨v, h1, h2, h3⟩ => by
    obtain ⟨pa, pc, hv, _⟩ := h2.sl
    subst hv
    exact ⟨pa, pc, h1, h2, h3⟩
end Go.Proofs.YtbhfbdcmamodcaaGreatDoor
namespace Go.Proofs.YtbhfbdcmamodcaaGreatDoor
open Go.RowKit PackMath SumMath
def Marked (y q : Nat) : Prop := y = 2147483648 + q
theorem Marked.lt {y q : Nat} (h : Marked y q) : decide ((y : Int) < 2147483648) = false := by unfold Marked at h; simp; omega
theorem Marked.sub {y q : Nat} (h : Marked y q) (hq : q ≤ 1000000) : ((y : Int) - 2147483648) % 4294967296 = (q : Int) := by unfold Marked at h; omega
def Last (z x : Nat) : Prop := z = x + 2147483648
theorem Last.mk (x : Nat) : Last (x + 2147483648) x := rfl
theorem Last.lt {z x : Nat} (h : Last z x) (hx : x < 1000000) : z < 4294967296 := by unfold Last at h; omega
theorem Last.not {z x : Nat} (h : Last z x) (hx : x < 1000000) : bits .andNot .u32 (z : Int) 2147483648 = (x : Int) := by unfold Last at h; subst h; exact noMark2 x (by omega)
theorem Last.ge {z x : Nat} (h : Last z x) : decide ((z : Int) ≥ 2147483648) = true := by unfold Last at h; simp; omega
end Go.Proofs.YtbhfbdcmamodcaaGreatDoor
