/- Walks of layer 9: copies with marked spare room. -/
import Derived.Test.YtmmabkppadokkaaCmW4
set_option linter.unusedVariables false
set_option linter.unusedSimpArgs false
namespace Go.Proofs.Ytmmabkppadokkaa
open Go.RowKit PackMath

theorem infoInt : (Try.prog.info? 3).map (fun i => (i.zero, i.size, i.bytes)) = some (some (.int .i64 0), 1, 8) := by kernel_rfl
def intVals (zs : List Int) : List Value := zs.map (Value.int .i64)
theorem intVals_length (zs : List Int) : (intVals zs).length = zs.length := by simp [intVals]
theorem intVals_one (zs : List Int) : ∀ u ∈ intVals zs, u.oneCell' = true := by
  intro u hu
  obtain ⟨z, _, rfl⟩ := List.mem_map.1 hu
  rfl
theorem ints_news {w : World} {a : Option Addr} {zs : List Int} (h : IntsAt w .i64 a zs) : ∀ ad, a = some ad → ∀ j u, (intVals zs)[j]? = some u → w.cell? (ad.add j) = some u := by
  intro ad ha j u hu
  have hj : j < zs.length := by
    have := (List.getElem?_eq_some_iff.1 hu).1
    rwa [intVals_length] at this
  obtain ⟨_, b, off, hb, hc⟩ := h j hj
  rw [ha] at hb
  obtain rfl := Option.some.inj hb
  rw [add_form, hc]
  rw [← hu]
  simp [intVals, hj]

/-- What a copy is: new parents at a block g, two marks behind them. -/
def CopiedSaid (t : Int) (zs : List Int) (w : World) (e : Ending) (w' : World) : Prop :=
  ∃ g, e = .returned (.agg #[.slice (some ⟨g, 0, none⟩) zs.length (zs.length + 2), .int .i64 t]) ∧ w.heap.size ≤ g ∧
    w'.heap[g]? = some (.cells (intVals (zs ++ [-77, -78])).toArray 3 (0, 0)) ∧ Below w.heap.size w w'

/-- While a copy is made: the commit's own box, the answer's box behind it, the new row at g. -/
structure Mid (w w3 : World) (a : Option Addr) (len cap : Nat) (t : Int) : Prop where
  box : w3.heap[w.heap.size]? = some (.cells #[.slice a len cap, .int .i64 t] 24 (0, 0))
  res : w3.heap[w.heap.size + 1]? = some (.cells #[.slice none 0 0, .int .i64 0] 24 (0, 0))
  bel : Below w.heap.size w w3
  size : w.heap.size + 2 ≤ w3.heap.size
theorem Mid.start (w : World) (a : Option Addr) (len cap : Nat) (t : Int) :
    Mid w ((w.alloc (.cells #[.slice a len cap, .int .i64 t] 24)).alloc (.cells #[.slice none 0 0, .int .i64 0] 24)) a len cap t := by
  refine ⟨?_, ?_, bl_alloc (bl_alloc (Below.refl _ _) _) _, by simp⟩
  · rw [Below.heap_alloc _ _ _ (by simp)]
    exact heap_alloc_new w _
  · have := heap_alloc_new (w.alloc (.cells #[.slice a len cap, .int .i64 t] 24)) (.cells #[.slice none 0 0, .int .i64 0] 24)
    rwa [show (w.alloc (.cells #[.slice a len cap, .int .i64 t] 24)).heap.size = w.heap.size + 1 by simp] at this
theorem Mid.grown {w w3 w4 : World} {a : Option Addr} {len cap : Nat} {t : Int} {row : Option Nat} (h : Mid w w3 a len cap t) (hg : w3.grownBy w4 row) (hr : ∀ g, row = some g → w.heap.size + 2 ≤ g) : Mid w w4 a len cap t := by
  have hs := h.size
  refine ⟨?_, ?_, ?_, Nat.le_trans hs hg.size⟩
  · rw [hg.block _ (by omega) (fun e => by have := hr _ e.symm; omega)]; exact h.box
  · rw [hg.block _ (by omega) (fun e => by have := hr _ e.symm; omega)]; exact h.res
  · exact h.bel.trans ⟨hg.os, hg.tape, hg.output, hg.size, fun k hk => hg.block k (by omega) (fun e => by have := hr _ e.symm; omega)⟩
theorem Mid.cells {w w3 : World} {a : Option Addr} {len cap : Nat} {t : Int} (h : Mid w w3 a len cap t) :
    w3.cell? ⟨w.heap.size, 0, none⟩ = some (.slice a len cap) ∧ w3.cell? ⟨w.heap.size, 1, none⟩ = some (.int .i64 t) ∧ w3.cell? ⟨w.heap.size + 1, 0, none⟩ = some (.slice none 0 0) ∧ w3.cell? ⟨w.heap.size + 1, 1, none⟩ = some (.int .i64 0) ∧
    w3.frozen? ⟨w.heap.size + 1, 0, none⟩ = false ∧ w3.frozen? ⟨w.heap.size + 1, 1, none⟩ = false :=
  ⟨by rw [cell_of_row _ _ _ _ _ _ h.box]; rfl, by rw [cell_of_row _ _ _ _ _ _ h.box]; rfl, by rw [cell_of_row _ _ _ _ _ _ h.res]; rfl, by rw [cell_of_row _ _ _ _ _ _ h.res]; rfl, frozen_of_row _ _ _ _ _ h.res, frozen_of_row _ _ _ _ _ h.res⟩
theorem cells_two (w : World) (u v : Value) (t : TypeId) : ∀ (j : Nat) x, [u, v][j]? = some x → (w.alloc (.cells #[u, v] t)).cell? ((⟨w.heap.size, 0, none⟩ : Addr).add j) = some x := by
  intro j x hj
  match j, hj with
  | 0, hj =>
    simp at hj
    subst hj
    show (w.alloc (.cells #[u, v] t)).cell? ⟨w.heap.size, 0, none⟩ = _
    rw [World.cell?_alloc_new]
    rfl
  | 1, hj =>
    simp at hj
    subst hj
    rw [add_form, World.cell?_alloc_mark]
    rfl
theorem row_full {w : World} {B g e n : Nat} {xs : List Value} (h : w.ownsRow B e 1 (.slice (some ⟨g, 0, none⟩) n n) n xs) : w.heap[g]? = some (.cells xs.toArray e (0, 0)) := by
  rcases h.2 with ⟨h', _⟩ | ⟨g', cap', cur, h', hb, hg, hnc, hcm, hcs, htake⟩
  · simp at h'
  · simp only [Value.slice.injEq, Option.some.injEq, Addr.mk.injEq, and_true, true_and] at h'
    obtain ⟨rfl, rfl⟩ := h'
    have : cur = xs.toArray := by
      rw [← htake, List.take_of_length_le (by rw [Array.length_toList, hcs]; exact Nat.le_refl _)]
    rw [hg, this]

set_option maxHeartbeats 1600000 in
set_option maxRecDepth 100000 in
theorem cCopied (w : World) (t : Int) (zs : List Int) (a : Option Addr) (cap : Nat) (h : Com w a zs cap) :
    Calls Try.prog 8 #[.agg #[.slice a zs.length cap, .int .i64 t]] w (CopiedSaid t zs w) := by
  obtain ⟨i0, hi, hz0, hz1, hz2⟩ := info_parts infoInt
  have hl := h.le; have hs := h.small
  have HN := Lib.hid (show a = none → zs.length = 0 ∧ cap = 0 from fun e => by have := h.nil e; omega)
  have HA := Lib.hid h
  have HM0 := Lib.hid (Mid.start w a zs.length cap t)
  clear h
  go_enter Try.func8, Try.ntmps8
  go_wp2_with (first
    | (refine wpList_make_own _ rfl _ (.tmp 7) 22 rfl 0 3 i0 (.int .i64 0) 1 Try.underlying22 hi hz0 hz1 .i64 .i64 _ (zs.length + 2) rfl rfl (by omega) (by rw [hz2]; omega) (by unfold maxLen; omega) (Nat.zero_le _) ?_; intro w3 hown hg; have HM3 := Lib.hid (HM0.out.grown hg (fun g e => by cases e)); obtain ⟨c0, c1, c2, c3, f2, f3⟩ := HM3.out.cells; rw [show ((w.alloc (.cells #[.slice a zs.length cap, .int .i64 t] 24)).alloc (.cells #[.slice none 0 0, .int .i64 0] 24)).heap.size = w.heap.size + 1 + 1 by simp] at hown; have HO3 := Lib.hid hown; clear hown hg)
    | (refine wpList_append_fits_any _ rfl (.tmp 9) (.tmp 11) 22 rfl 0 3 i0 1 Try.underlying22 hi hz1 (w.heap.size + 1 + 1) 0 (zs.length + 2) [] rfl HO3.out a zs.length cap (intVals zs) rfl (by rw [intVals_length]; omega) HN.out (ints_news (HA.out.ints.below HM3.out.bel (Nat.le_refl _))) (intVals_one zs) (by omega) ?_; intro w4 hown hg; have HM4 := Lib.hid (HM3.out.grown hg (fun g e => by cases e; omega)); clear c0 c1 c2 c3 f2 f3; obtain ⟨c0, c1, c2, c3, f2, f3⟩ := HM4.out.cells; rw [Nat.zero_add, List.nil_append] at hown; have HO4 := Lib.hid hown; clear hown hg)
    | (refine wpList_append_fits _ rfl (.tmp 13) (.tmp 14) 22 rfl 0 3 i0 1 Try.underlying22 hi hz1 (w.heap.size + 1 + 1) zs.length (zs.length + 2) (intVals zs) rfl (HO4.out.alloc _) ⟨w4.heap.size, 0, none⟩ 2 2 [.int .i64 (-77), .int .i64 (-78)] rfl rfl (cells_two _ _ _ _) (intVals_one [-77, -78]) (Nat.le_refl _) ?_; intro w5 hown hg; have HM5 := Lib.hid ((HM4.out.grown (World.grownBy_alloc _ _ none) (fun g e => by cases e)).grown hg (fun g e => by cases e; omega)); clear c0 c1 c2 c3 f2 f3; obtain ⟨c0, c1, c2, c3, f2, f3⟩ := HM5.out.cells; have HO5 := Lib.hid (row_full hown); clear hown hg))
  have hr1 := heap_setCell_same w5 (w.heap.size + 1) 0 _ _ (.slice (some ⟨w.heap.size + 1 + 1, 0, none⟩) zs.length (zs.length + 2)) HM5.out.res
  have hr2 := heap_setCell_same _ (w.heap.size + 1) 1 _ _ (.int .i64 t) hr1
  have e0 := cell_of_row _ _ 0 _ _ _ hr2
  have e1 := cell_of_row _ _ 1 _ _ _ hr2
  refine bodyPost_ret (v := .agg #[.slice (some ⟨w.heap.size + 1 + 1, 0, none⟩) zs.length (zs.length + 2), .int .i64 t]) (by simp [results, Try.results8, go_sem, e0, e1]) rfl ⟨w.heap.size + 1 + 1, rfl, by omega, ?_, ?_⟩
  · rw [heap_setCell_other _ _ _ _ (by simp), heap_setCell_other _ _ _ _ (by simp), HO5.out]
    simp [intVals]
  · exact (HM5.out.bel.setCell (by simp) _).setCell (by simp) _

theorem com_of_row {w : World} {g : Nat} {zs ms : List Int} (h : w.heap[g]? = some (.cells (intVals (zs ++ ms)).toArray 3 (0, 0))) (hwf : ∀ z ∈ zs, (Lit.int .i64 z).wf = true) (hs : zs.length + ms.length ≤ 17592186044416) :
    Com w (some ⟨g, 0, none⟩) zs (zs.length + ms.length) := by
  refine ⟨fun i hi => ⟨hwf _ (List.getElem_mem hi), g, 0, rfl, ?_⟩, by omega, by omega, by unfold maxLen; omega, fun e => by cases e⟩
  rw [cell_of_row _ _ _ _ _ _ h]
  have e : (intVals (zs ++ ms)).toArray[0 + i]? = (intVals zs)[i]? := by
    rw [List.getElem?_toArray, Nat.zero_add, intVals, List.map_append, List.getElem?_append_left (by simpa using hi)]; rfl
  rw [e]
  simp [intVals, hi]
theorem Com.wf {w : World} {a : Option Addr} {zs : List Int} {cap : Nat} (h : Com w a zs cap) : ∀ z ∈ zs, (Lit.int .i64 z).wf = true := by
  intro z hz
  obtain ⟨i, hi, rfl⟩ := List.getElem_of_mem hz
  exact (h.ints i hi).1

set_option maxHeartbeats 800000 in
theorem cKept (w : World) (t : Int) (zs : List Int) (a : Option Addr) (cap g : Nat) (h : Com w a zs cap) (hsm : cap + 2 ≤ 17592186044416) (hrow : w.heap[g]? = some (.cells (intVals (zs ++ [-77, -78])).toArray 3 (0, 0))) :
    Calls Try.prog 13 #[.agg #[.slice (some ⟨g, 0, none⟩) zs.length (zs.length + 2), .int .i64 t], .agg #[.slice a zs.length cap, .int .i64 t]] w fun e w' => e = .returned (.bool true) ∧ Below w.heap.size w w' := by
  have hl := h.le
  have HC := Lib.hid (com_of_row (ms := [-77, -78]) hrow h.wf (by simp; omega))
  have HA := Lib.hid h
  have m0 : w.cell? ⟨g, zs.length, none⟩ = some (.int .i64 (-77)) := by rw [cell_of_row _ _ _ _ _ _ hrow]; simp [intVals]
  have m1 : w.cell? ⟨g, zs.length + 1, none⟩ = some (.int .i64 (-78)) := by rw [cell_of_row _ _ _ _ _ _ hrow]; simp [intVals]
  have hgl : g < w.heap.size := (Array.getElem?_eq_some_iff.1 hrow).1
  have HS := Lib.hid (sameB_self (t := t) (zs := zs))
  clear h hrow
  go_enter Try.func13, Try.ntmps13
  go_wp2_with (go_at_call 15; refine (dSame _ t t zs zs _ a (zs.length + 2) cap ((HC.out.alloc _).alloc _) ((HA.out.alloc _).alloc _)).mono ?_; rintro e w1 ⟨rfl, hb⟩; rw [HS.out]; have hb2 := bl_trans (bl_alloc (bl_alloc (Below.refl _ w) _) _) hb; have n0 := bl_cell hb2 m0; have n1 := bl_cell hb2 m1; have HB := Lib.hid hb2; clear hb hb2)
  go_ret
  exact ⟨rfl, HB.out⟩

theorem lit_ints (w : World) : Com (w.alloc (.cells #[.int .i64 1, .int .i64 258] 3)) (some ⟨w.heap.size, 0, none⟩) [1, 258] 2 :=
  com_of_row (ms := []) (heap_alloc_new w (.cells #[.int .i64 1, .int .i64 258] 3)) (by decide) (by decide)
theorem tells_enc : encC 5 [1, 258] = [0, 0, 0, 5, 2, 0, 0, 0, 1, 0, 0, 1, 2] := by decide
theorem tells_ok : checkR 5 [1, 258] = 0 := by decide
theorem cTells (w : World) : Calls Try.prog 7 #[] w fun e w' => e = .returned (.bool true) ∧ Below w.heap.size w w' := by
  have HL := Lib.hid (lit_ints w)
  have HT := Lib.hid (fun (k : Com (w.alloc (.cells #[.int .i64 1, .int .i64 258] 3)) (some ⟨w.heap.size, 0, none⟩) [1, 258] 2) => by
    have := cEncode_ok _ 5 [1, 258] _ 2 k.le k.max k.ints tells_ok
    rw [tells_enc] at this
    exact this)
  go_enter Try.func7, Try.ntmps7
  go_wp2_with (go_at_call 9; refine (HT.out HL.out).mono ?_; rintro e w1 ⟨rfl, hb⟩; have HB := Lib.hid (bl_trans (bl_alloc (Below.refl _ w) _) hb); clear hb)
  go_ret
  exact ⟨rfl, HB.out⟩
end Go.Proofs.Ytmmabkppadokkaa
