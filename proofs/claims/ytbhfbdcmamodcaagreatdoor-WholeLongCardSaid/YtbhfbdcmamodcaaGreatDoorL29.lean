/- Walks of layer 8: rows of one's own: a clone; writing over an answer. -/
import Derived.Test.YtbhfbdcmamodcaaGreatDoorL02
import Derived.Test.YtbhfbdcmamodcaaGreatDoorL28
import Derived.Deep.QuietTactic
import Derived.BigQuiet
import Derived.Laws.Rows
set_option linter.unusedVariables false
set_option linter.unusedSimpArgs false
namespace Go.Proofs.YtbhfbdcmamodcaaGreatDoor
open Go.RowKit TrMath
theorem row_kept {B E z n : Nat} {wa wb : World} {u : Value} {xs : List Value} (h : wa.ownsRow B E z u n xs) (hk : ∀ k, B ≤ k → k < wa.heap.size → wb.heap[k]? = wa.heap[k]?) : wb.ownsRow B E z u n xs := by
  refine ⟨h.1, ?_⟩
  rcases h.2 with h2 | ⟨g, cap, cur, hvv, hgb, hh, r⟩
  · exact .inl h2
  · exact .inr ⟨g, cap, cur, hvv, hgb, by rw [hk g hgb (Array.getElem?_eq_some_iff.1 hh).1]; exact hh, r⟩
def Own (w : World) (B : Nat) (v : Value) (l : List (ByteArray × Int)) : Prop := w.ownsRow B 86 2 v l.length (enCells l)
theorem Own.nil (w : World) (B : Nat) : Own w B (.slice none 0 0) [] := World.ownsRow_nil _ _ _ _
theorem Own.at {w : World} {B : Nat} {v : Value} {l : List (ByteArray × Int)} (h : Own w B v l) : ∃ a c, v = .slice a l.length c ∧ EnAt w a l ∧ l.length ≤ c ∧ c ≤ maxLen := en_row h
theorem Own.mono {w : World} {B C : Nat} {v : Value} {l : List (ByteArray × Int)} (h : Own w B v l) (hc : C ≤ B) : Own w C v l := by
  refine ⟨h.1, ?_⟩
  rcases h.2 with h2 | ⟨g, cap, cur, hvv, hgb, r⟩
  · exact .inl h2
  · exact .inr ⟨g, cap, cur, hvv, by omega, r⟩
theorem Own.lt {w : World} {B : Nat} {v : Value} {l : List (ByteArray × Int)} (h : Own w B v l) : ∀ k, v.ownBlock = some k → B ≤ k ∧ k < w.heap.size := World.ownsRow.lt h
theorem Own.keep {w w' : World} {B : Nat} {v : Value} {l : List (ByteArray × Int)} (h : Own w B v l) (hk : ∀ k, v.ownBlock = some k → w'.heap[k]? = w.heap[k]?) : Own w' B v l := by
  refine ⟨h.1, ?_⟩
  rcases h.2 with h2 | ⟨g, cap, cur, hvv, hgb, hh, r⟩
  · exact .inl h2
  · exact .inr ⟨g, cap, cur, hvv, hgb, by rw [hk g (by rw [hvv]; rfl)]; exact hh, r⟩
theorem Own.below {w w' : World} {B : Nat} {v : Value} {l : List (ByteArray × Int)} (h : Own w B v l) (hb : Below w.heap.size w w') : Own w' B v l :=
  h.keep fun k hk => hb.block k (h.lt k hk).2
theorem Own.alloc {w : World} {B : Nat} {v : Value} {l : List (ByteArray × Int)} (h : Own w B v l) (o : Obj) : Own (w.alloc o) B v l := h.below (bl_alloc (Below.refl _ w) o)
theorem gb_to_below {w x y : World} {r : Option Nat} {B : Nat} (h : Below B w x) (k : x.grownBy y r) (hB : B ≤ x.heap.size) (hr : ∀ i, r = some i → B ≤ i) : Below B w y :=
  h.trans ⟨k.os, k.tape, k.output, Nat.le_trans (by omega) k.size, fun i hi => k.block i (by omega) (fun e => by have := hr i e.symm; omega)⟩
theorem enCells_set (l : List (ByteArray × Int)) (p : ByteArray) (v : Int) : ∀ k, k < l.length → (((enCells l).set (k * 2) (.string p)).set (k * 2 + 1) (.int .u32 v)) = enCells (l.set k (p, v)) := by
  induction l with
  | nil => intro k h; simp at h
  | cons x r ih =>
    intro k h
    have e : enCells (x :: r) = .string x.1 :: .int .u32 x.2 :: enCells r := rfl
    match k, h with
    | 0, _ => rw [e]; rfl
    | k + 1, h =>
      rw [e, show (k + 1) * 2 = k * 2 + 1 + 1 from by omega]
      simp only [List.set_cons_succ]
      rw [ih k (by simpa using h)]
      rfl
theorem own_form {w : World} {B : Nat} {v : Value} {l : List (ByteArray × Int)} (h : Own w B v l) (h0 : 0 < l.length) : ∃ g cap cur, v = .slice (some ⟨g, 0, none⟩) l.length cap ∧ B ≤ g ∧ w.heap[g]? = some (.cells cur 86 (0, 0)) ∧ l.length ≤ cap ∧ cap ≤ maxLen ∧ cur.size = cap * 2 ∧ cur.toList.take (l.length * 2) = enCells l := by
  rcases h.2 with ⟨_, h2⟩ | h2
  · omega
  · exact h2
theorem Own.set {w : World} {B g cap : Nat} {l : List (ByteArray × Int)} (h : Own w B (.slice (some ⟨g, 0, none⟩) l.length cap) l) {k : Nat} (hk : k < l.length) (p : ByteArray) (v : Int) :
    Own ((w.setCell ⟨g, k * 2, none⟩ (.string p)).setCell ⟨g, k * 2 + 1, none⟩ (.int .u32 v)) B (.slice (some ⟨g, 0, none⟩) l.length cap) (l.set k (p, v)) := by
  obtain ⟨g', cap', cur, hv, hB, hh, hn, hm, hs, ht⟩ := own_form h (by omega)
  cases hv
  refine ⟨by rw [enCells_len, List.length_set], .inr ⟨g, cap, (cur.setIfInBounds (k * 2) (.string p)).setIfInBounds (k * 2 + 1) (.int .u32 v), by rw [List.length_set], hB, ?_, by rw [List.length_set]; exact hn, hm, by simp [hs], ?_⟩⟩
  · rw [heap_setCell_same _ _ _ _ _ _ (heap_setCell_same _ _ _ _ _ _ hh)]
  · rw [List.length_set, Array.toList_setIfInBounds, Array.toList_setIfInBounds, List.take_set, List.take_set, ht, enCells_set l p v k hk]
theorem Own.cells {w : World} {B g cap : Nat} {l : List (ByteArray × Int)} (h : Own w B (.slice (some ⟨g, 0, none⟩) l.length cap) l) {k : Nat} (hk : k < l.length) :
    w.cell? ⟨g, k * 2, none⟩ = some (.string l[k].1) ∧ w.cell? ⟨g, k * 2 + 1, none⟩ = some (.int .u32 l[k].2) ∧ w.frozen? ⟨g, k * 2, none⟩ = false ∧ w.frozen? ⟨g, k * 2 + 1, none⟩ = false := by
  obtain ⟨g', cap', cur, hv, hB, hh, hn, hm, hs, ht⟩ := own_form h (by omega)
  cases hv
  obtain ⟨a, c, hv, ha, _⟩ := Own.at h
  cases hv
  obtain ⟨b, off, h1, _, h2, h3⟩ := ha k hk
  cases h1
  rw [Nat.zero_add] at h2 h3
  exact ⟨h2, h3, by simp [World.frozen?, hh], by simp [World.frozen?, hh]⟩
set_option maxHeartbeats 1000000 in
set_option maxRecDepth 100000 in
theorem tClone (l : List (ByteArray × Int)) (a : Option Addr) (c : Nat) (hl : l.length ≤ 1099511627776) (w : World) (h : EnAt w a l) :
    Calls Tryz.prog 35 #[.slice a l.length c] w fun e w' => ∃ v', e = .returned v' ∧ Own w' w.heap.size v' l ∧ Below w.heap.size w w' := by
  obtain ⟨i0, hi, hz0, hz1, hz2⟩ := info_parts infoEntry
  have q22 : ∀ (w : World) (a : Option Addr) (n c n' c' : Nat), (binOp .eql 34 (.slice a n c) (.slice none n' c')).run Tryz.prog w = .ok (.bool a.isNone) w := fun w a n c n' c' => Lib.run_eql_slice_nil w _ _ a n c n' c' Tryz.underlying34
  cases a with
  | none =>
    have hl0 : l = [] := by
      cases l with
      | nil => rfl
      | cons x r => obtain ⟨b, off, h1, _⟩ := h 0 (by simp); exact absurd h1 (by simp)
    subst hl0
    clear h
    go_enter Tryz.func35, Tryz.ntmps35
    go_wp2
    go_ret
    exact ⟨_, rfl, Own.nil _ _, Below.refl _ _⟩
  | some p =>
    have hc : ∀ j u, (enCells l)[j]? = some u → w.cell? (p.add j) = some u := by
      intro j u hj
      have hjl : j < (enCells l).length := (List.getElem?_eq_some_iff.1 hj).1
      rw [enCells_len] at hjl
      obtain ⟨b', off', h1, _⟩ := h 0 (by omega)
      cases h1
      exact h.cells j u hj
    have HC := Lib.hid hc
    clear h hc
    go_enter Tryz.func35, Tryz.ntmps35
    go_wp2_with (at_builtin; refine wpList_append_own _ rfl _ _ 34 rfl w.heap.size 86 i0 (.agg #[.string ⟨#[]⟩, .int .u32 0]) 2 24 Tryz.underlying34 hi hz0 hz1 hz2 rfl (by decide) _ _ _ rfl (World.ownsRow_made w #[] 0 (Nat.le_refl _) (Nat.zero_le _) (by simp)) p l.length c (enCells l) rfl ?qc1 ?qc2 ?qc3 ?qc4 ?qc5 ?qc6 ?_)
    case qc1 => exact enCells_len l
    case qc2 =>
      intro j u hj
      exact Lib.cell?_alloc_some _ (HC.out j u hj)
    case qc3 => exact enCells_one l
    case qc4 => unfold maxLen; omega
    case qc5 => omega
    case qc6 => simp
    intro v' w1 hown hgrow hnil
    go_wp2
    go_ret
    refine ⟨v', rfl, by simpa [Own] using hown, ?_⟩
    exact ((Below.refl _ w).alloc (Nat.le_refl _) _).grown hgrow (by simp) (by intro k hk; simp [Value.ownBlock] at hk; omega)
end Go.Proofs.YtbhfbdcmamodcaaGreatDoor
