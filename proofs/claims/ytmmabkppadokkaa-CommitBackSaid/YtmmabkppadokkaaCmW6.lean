/- Layer 9: what holds while a commit is read from bytes. -/
import Derived.Test.YtmmabkppadokkaaCmW5
import Derived.Test.YtmmabkppadokkaaCmMath2
import Derived.Test.YtmmabkppadokkaaRdW8
set_option linter.unusedVariables false
set_option linter.unusedSimpArgs false
namespace Go.Proofs.Ytmmabkppadokkaa
open Go.RowKit PackMath

/-- What is read: the answer's parents are a row of the call's own. -/
def DecSaid (s : ByteArray) (w : World) (r : Ending) (w' : World) : Prop :=
  ∃ v : Value, r = .returned (.tuple #[.agg #[v, .int .i64 ((decR s).2.1 : Nat)], .int .i64 ((decR s).1 : Nat)]) ∧ w'.ownsRow w.heap.size 3 1 v (decR s).2.2.length (intVals (decR s).2.2) ∧ Below w.heap.size w w'

/-- The answer's box, nothing in it yet. -/
structure ResAt (w wr : World) : Prop where
  row : wr.heap[w.heap.size]? = some (.cells #[.slice none 0 0, .int .i64 0] 24 (0, 0))
  bel : Below w.heap.size w wr
theorem ResAt.start (w : World) : ResAt w (w.alloc (.cells #[.slice none 0 0, .int .i64 0] 24)) := ⟨heap_alloc_new _ _, bl_alloc (Below.refl _ _) _⟩
theorem res_size (w : World) : (w.alloc (.cells #[.slice none 0 0, .int .i64 0] 24)).heap.size = w.heap.size + 1 := by simp
theorem ResAt.lt {w wr : World} (h : ResAt w wr) : w.heap.size < wr.heap.size := (Array.getElem?_eq_some_iff.1 h.row).1
theorem ResAt.below {w wr w1 : World} (h : ResAt w wr) (hb : Below wr.heap.size wr w1) : ResAt w w1 := ⟨by rw [hb.block _ h.lt]; exact h.row, bl_trans h.bel hb⟩
theorem ResAt.kept {w wr w1 : World} {p : Nat} (h : ResAt w wr) (k : Kept wr w1 p) (hp : w.heap.size < p) : ResAt w w1 :=
  ⟨by rw [k.block _ h.lt (by omega)]; exact h.row, h.bel.trans (k.below (by omega) h.bel.size)⟩
theorem ResAt.cells {w wr : World} (h : ResAt w wr) : wr.cell? ⟨w.heap.size, 0, none⟩ = some (.slice none 0 0) ∧ wr.cell? ⟨w.heap.size, 1, none⟩ = some (.int .i64 0) ∧ wr.frozen? ⟨w.heap.size, 0, none⟩ = false ∧ wr.frozen? ⟨w.heap.size, 1, none⟩ = false :=
  ⟨by rw [cell_of_row _ _ _ _ _ _ h.row]; rfl, by rw [cell_of_row _ _ _ _ _ _ h.row]; rfl, frozen_of_row _ _ _ _ _ h.row, frozen_of_row _ _ _ _ _ h.row⟩
theorem ResAt.done {w wr : World} {v : Value} {t : Int} (h : ResAt w wr) :
    ((wr.setCell ⟨w.heap.size, 0, none⟩ v).setCell ⟨w.heap.size, 1, none⟩ (.int .i64 t)).cell? ⟨w.heap.size, 0, none⟩ = some v ∧
    ((wr.setCell ⟨w.heap.size, 0, none⟩ v).setCell ⟨w.heap.size, 1, none⟩ (.int .i64 t)).cell? ⟨w.heap.size, 1, none⟩ = some (.int .i64 t) ∧
    Below w.heap.size w ((wr.setCell ⟨w.heap.size, 0, none⟩ v).setCell ⟨w.heap.size, 1, none⟩ (.int .i64 t)) := by
  have h1 := heap_setCell_same wr w.heap.size 0 _ _ v h.row
  have h2 := heap_setCell_same _ w.heap.size 1 _ _ (.int .i64 t) h1
  exact ⟨by rw [cell_of_row _ _ _ _ _ _ h2]; rfl, by rw [cell_of_row _ _ _ _ _ _ h2]; rfl, (h.bel.setCell (Nat.le_refl _) _).setCell (Nat.le_refl _) _⟩

/-- While the parents are read: the answer's box, the reader at p, the commit's box at q, its row behind it. -/
structure DecAt (T : TypeId) (w wr : World) (p q : Nat) (s : ByteArray) (a e : Nat) (v : Value) (pre : List Int) (t : Nat) : Prop where
  rd : IsRd T wr p s a e
  cc : wr.heap[q]? = some (.cells #[v, .int .i64 t] 24 (0, 0))
  row : wr.ownsRow (q + 1) 3 1 v pre.length (intVals pre)
  res : ResAt w wr
  lp : w.heap.size < p
  lq : p < q
section
variable {T : TypeId} {w wr : World} {p q : Nat} {s : ByteArray} {a e : Nat} {v : Value} {pre : List Int} {t : Nat}
theorem DecAt.big (h : DecAt T w wr p q s a e v pre t) : q + 1 ≤ wr.heap.size := (Array.getElem?_eq_some_iff.1 h.cc).1
theorem own_kept {B E n : Nat} {wa wb : World} {u : Value} {xs : List Value} (h : wa.ownsRow B E 1 u n xs) (hk : ∀ k, B ≤ k → k < wa.heap.size → wb.heap[k]? = wa.heap[k]?) : wb.ownsRow B E 1 u n xs := by
  refine ⟨h.1, ?_⟩
  rcases h.2 with h2 | ⟨g, cap, cur, hvv, hgb, hh, r⟩
  · exact .inl h2
  · exact .inr ⟨g, cap, cur, hvv, hgb, by rw [hk g hgb (Array.getElem?_eq_some_iff.1 hh).1]; exact hh, r⟩
theorem DecAt.start (h : ResAt w wr) (hr : IsRd T wr (w.heap.size + 1) s a e) (t : Nat) :
    DecAt T w (wr.alloc (.cells #[.slice none 0 0, .int .i64 t] 24)) (w.heap.size + 1) wr.heap.size s a e (.slice none 0 0) [] t :=
  ⟨hr.below (bl_alloc (Below.refl _ _) _), heap_alloc_new _ _, World.ownsRow_nil _ _ _ _, h.below (bl_alloc (Below.refl _ _) _), Nat.lt_succ_self _, (Array.getElem?_eq_some_iff.1 hr.cell).1⟩
theorem DecAt.read {w1 : World} {b g : Nat} (h : DecAt T w wr p q s a e v pre t) (k : Kept wr w1 p) (r : IsRd T w1 p s b g) : DecAt T w w1 p q s b g v pre t :=
  ⟨r, by rw [k.block q (by have := h.big; omega) (by have := h.lq; omega)]; exact h.cc, own_kept h.row (fun i hi hl => k.block i hl (by have := h.lq; omega)), h.res.kept k h.lp, h.lp, h.lq⟩
theorem DecAt.below {w1 : World} (h : DecAt T w wr p q s a e v pre t) (hb : Below wr.heap.size wr w1) : DecAt T w w1 p q s a e v pre t :=
  ⟨h.rd.below hb, by rw [hb.block q (by have := h.big; omega)]; exact h.cc, own_kept h.row (fun i _ hl => hb.block i hl), h.res.below hb, h.lp, h.lq⟩
theorem DecAt.cell (h : DecAt T w wr p q s a e v pre t) : wr.cell? ⟨q, 0, none⟩ = some v ∧ wr.frozen? ⟨q, 0, none⟩ = false :=
  ⟨by rw [cell_of_row _ _ _ _ _ _ h.cc]; rfl, frozen_of_row _ _ _ _ _ h.cc⟩
theorem DecAt.both (h : DecAt T w wr p q s a e v pre t) : wr.cell? ⟨q, 0, none⟩ = some v ∧ wr.cell? ⟨q, 1, none⟩ = some (.int .i64 t) ∧ wr.frozen? ⟨q, 0, none⟩ = false :=
  ⟨by rw [cell_of_row _ _ _ _ _ _ h.cc]; rfl, by rw [cell_of_row _ _ _ _ _ _ h.cc]; rfl, frozen_of_row _ _ _ _ _ h.cc⟩
theorem DecAt.notq (h : DecAt T w wr p q s a e v pre t) : ∀ g, v.ownBlock = some g → q < g := fun g hg => by have := (h.row.lt g hg).1; omega
theorem DecAt.mid {o : Obj} {w1 : World} (h : DecAt T w wr p q s a e v pre t) (hg : (wr.alloc o).grownBy w1 v.ownBlock) : w1.cell? ⟨q, 0, none⟩ = some v ∧ w1.frozen? ⟨q, 0, none⟩ = false := by
  have hq := h.big
  have h1 : w1.heap[q]? = some (.cells #[v, .int .i64 t] 24 (0, 0)) := by
    rw [hg.block q (by simp; omega) (fun e => by have := h.notq q e.symm; omega), Below.heap_alloc wr o q (by omega)]
    exact h.cc
  exact ⟨by rw [cell_of_row _ _ _ _ _ _ h1]; rfl, frozen_of_row _ _ _ _ _ h1⟩
theorem DecAt.push {o : Obj} {w1 : World} {u : Value} {x : Nat} (h : DecAt T w wr p q s a e v pre t) (hown : w1.ownsRow (q + 1) 3 1 u (pre.length + 1) (intVals pre ++ [.int .i64 x])) (hg : (wr.alloc o).grownBy w1 v.ownBlock)
    (hat : u.ownBlock = v.ownBlock ∨ u.ownBlock = some (wr.heap.size + 1)) : DecAt T w (w1.setCell ⟨q, 0, none⟩ u) p q s a e u (pre ++ [(x : Int)]) t := by
  have hq := h.big
  have hlq := h.lq
  have hlp := h.lp
  have same : ∀ k, k < q + 1 → w1.heap[k]? = wr.heap[k]? := fun k hk => by
    rw [hg.block k (by simp; omega) (fun e => by have := h.notq k e.symm; omega), Below.heap_alloc wr o k (by omega)]
  have hu : ∀ g, u.ownBlock = some g → q < g := fun g hgu => by
    rcases hat with e | e
    · exact h.notq g (e ▸ hgu)
    · rw [e] at hgu
      have := Option.some.inj hgu
      omega
  refine ⟨⟨?_, h.rd.le, h.rd.small⟩, ?_, ?_, ⟨?_, ?_⟩, h.lp, h.lq⟩
  · rw [heap_setCell_other _ _ _ _ (show p ≠ q by omega), same p (by omega)]; exact h.rd.cell
  · rw [heap_setCell_same w1 q 0 _ _ u (by rw [same q (by omega)]; exact h.cc)]; rfl
  · rw [List.length_append]
    have hs : intVals (pre ++ [(x : Int)]) = intVals pre ++ [.int .i64 x] := by simp [intVals]
    rw [hs]
    exact own_kept hown (fun k hk _ => heap_setCell_other _ _ _ _ (show k ≠ q by omega))
  · rw [heap_setCell_other _ _ _ _ (show w.heap.size ≠ q by omega), same _ (by omega)]; exact h.res.row
  · have hb : Below w.heap.size w w1 := h.res.bel.trans ⟨hg.os, hg.tape, hg.output, by have := hg.size; simp at this; omega, fun k hk => same k (by omega)⟩
    exact hb.setCell (by show w.heap.size ≤ q; omega) _
theorem wf_small {z : Int} (h : 0 ≤ z ∧ z < 4294967296) : (Lit.int .i64 z).wf = true := WalkArith.wf_i64 (by omega)
theorem com_of_own {B : Nat} {wa : World} {u : Value} {zs : List Int} (h : wa.ownsRow B 3 1 u zs.length (intVals zs)) (hw : ∀ z ∈ zs, 0 ≤ z ∧ z < 4294967296) (hl : zs.length ≤ 256) :
    ∃ ca cp, u = .slice ca zs.length cp ∧ Com wa ca zs cp := by
  rcases h.2 with ⟨rfl, h0⟩ | ⟨g, cap, cur, rfl, hgb, hh, hnc, hcm, hcs, htake⟩
  · have : zs = [] := List.eq_nil_of_length_eq_zero h0
    subst this
    exact ⟨none, 0, rfl, fun i hi => absurd hi (by simp), Nat.le_refl _, by simp, by simp [maxLen], fun _ => rfl⟩
  · refine ⟨some ⟨g, 0, none⟩, cap, rfl, fun i hi => ⟨wf_small (hw _ (List.getElem_mem hi)), g, 0, rfl, ?_⟩, hnc, by omega, hcm, fun e => by cases e⟩
    rw [Nat.zero_add, h.cellAt i (by omega)]
    simp [intVals, hi]
theorem DecAt.com (h : DecAt T w wr p q s a e v pre t) (hw : ∀ z ∈ pre, 0 ≤ z ∧ z < 4294967296) (hl : pre.length ≤ 256) : ∃ ca cp, v = .slice ca pre.length cp ∧ Com wr ca pre cp := com_of_own h.row hw hl
theorem DecAt.comAt {wz : World} {ca : Option Addr} {cp : Nat} (h : DecAt T w wr p q s a e (.slice ca pre.length cp) pre t) (k : Com wz ca pre cp) : Com wr ca pre cp := by
  refine ⟨fun i hi => ⟨(k.ints i hi).1, ?_⟩, k.le, k.small, k.max, k.nil⟩
  obtain ⟨b, off, hb, _⟩ := (k.ints i hi).2
  subst hb
  have h0 := h.row
  rcases h0.2 with ⟨h', _⟩ | ⟨g', cap', cur, h', _⟩
  · simp at h'
  · simp only [Value.slice.injEq, Option.some.injEq, Addr.mk.injEq, and_true] at h'
    obtain ⟨⟨rfl, rfl⟩, _⟩ := h'
    refine ⟨b, 0, rfl, ?_⟩
    rw [Nat.zero_add, h0.cellAt i (by omega)]
    simp [intVals, hi]
theorem DecAt.rowAt (h : DecAt T w wr p q s a e v pre t) : ((wr.setCell ⟨w.heap.size, 0, none⟩ v).setCell ⟨w.heap.size, 1, none⟩ (.int .i64 t)).ownsRow w.heap.size 3 1 v pre.length (intVals pre) := by
  have hlp := h.lp
  have hlq := h.lq
  have h1 : wr.ownsRow w.heap.size 3 1 v pre.length (intVals pre) := by
    refine ⟨h.row.1, ?_⟩
    rcases h.row.2 with h2 | ⟨g, cap, cur, hvv, hgb, r⟩
    · exact .inl h2
    · exact .inr ⟨g, cap, cur, hvv, by omega, r⟩
  refine ⟨h1.1, ?_⟩
  rcases h.row.2 with h2 | ⟨g, cap, cur, hvv, hgb, hh, r⟩
  · exact .inl h2
  · refine .inr ⟨g, cap, cur, hvv, by omega, ?_, r⟩
    rw [heap_setCell_other _ _ _ _ (show g ≠ w.heap.size by omega), heap_setCell_other _ _ _ _ (show g ≠ w.heap.size by omega)]
    exact hh
end

theorem dec_nil {s : ByteArray} {w wz : World} {E : Nat} (h : decR s = (E, (0, []))) (hb : Below w.heap.size w wz) : DecSaid s w (.returned (.tuple #[.agg #[.slice none 0 0, .int .i64 0], .int .i64 E])) wz := by
  unfold DecSaid
  rw [h]
  exact ⟨_, rfl, World.ownsRow_nil _ _ _ _, hb⟩
theorem dec_row {s : ByteArray} {w wz : World} {t : Nat} {l : List Int} {v : Value} (h : decR s = (0, (t, l))) (hb : Below w.heap.size w wz) (ho : wz.ownsRow w.heap.size 3 1 v l.length (intVals l)) : DecSaid s w (.returned (.tuple #[.agg #[v, .int .i64 t], .int .i64 0])) wz := by
  unfold DecSaid
  rw [h]
  exact ⟨_, rfl, ho, hb⟩

theorem cCheck_all {t : Int} {zs : List Int} (w : World) (a : Option Addr) (cap : Nat) (h : Com w a zs cap) :
    Calls Try.prog 11 #[.agg #[.slice a zs.length cap, .int .i64 t]] w fun e w' => e = .returned (.int .i64 (checkR t zs)) ∧ Below w.heap.size w w' := cCheck w t zs a cap h.le h.max h.ints
theorem dCheck_all {t : Int} {zs : List Int} (w : World) (a : Option Addr) (cap : Nat) (h : Com w a zs cap) :
    Calls Try.prog 12 #[.agg #[.slice a zs.length cap, .int .i64 t]] w fun e w' => e = .returned (.int .i64 (checkR t zs)) ∧ Below w.heap.size w w' := dCheck w t zs a cap h.le h.max h.ints
theorem cCheck_ex {t : Int} {zs : List Int} (hok : checkR t zs = 0) (w : World) (a : Option Addr) (cap : Nat) (h : Com w a zs cap) :
    Calls Try.prog 11 #[.agg #[.slice a zs.length cap, .int .i64 t]] w fun e w' => e = .returned (.int .i64 0) ∧ Below w.heap.size w w' := cCheck_ok w t zs a cap h.le h.max h.ints hok
theorem dCheck_ex {t : Int} {zs : List Int} (hok : checkR t zs = 0) (w : World) (a : Option Addr) (cap : Nat) (h : Com w a zs cap) :
    Calls Try.prog 12 #[.agg #[.slice a zs.length cap, .int .i64 t]] w fun e w' => e = .returned (.int .i64 0) ∧ Below w.heap.size w w' := dCheck_ok w t zs a cap h.le h.max h.ints hok
end Go.Proofs.Ytmmabkppadokkaa
