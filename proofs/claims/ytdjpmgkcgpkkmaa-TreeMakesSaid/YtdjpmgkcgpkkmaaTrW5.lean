/- Walks of layer 8: rows of one's own: a clone; writing over an answer. -/
import Derived.Test.YtdjpmgkcgpkkmaaTrW4
import Derived.Laws.Rows
set_option linter.unusedVariables false
set_option linter.unusedSimpArgs false
namespace Go.Proofs.Ytdjpmgkcgpkkmaa
open Go.RowKit TrMath

theorem cells_pair (w : World) (u v : Value) (t : TypeId) : ∀ (j : Nat) x, [u, v][j]? = some x → (w.alloc (.cells #[u, v] t)).cell? ((⟨w.heap.size, 0, none⟩ : Addr).add j) = some x := by
  intro j x hj
  match j, hj with
  | 0, hj =>
    simp at hj
    subst hj
    show (w.alloc (.cells #[u, v] t)).cell? ⟨w.heap.size, 0, none⟩ = _
    rw [World.cell?_alloc_new]
    rfl
  | 1, hj =>
    simp at hj
    subst hj
    rw [show (⟨w.heap.size, 0, none⟩ : Addr).add 1 = ⟨w.heap.size, 1, none⟩ from rfl, World.cell?_alloc_mark]
    rfl
theorem one_pair (p : ByteArray) (v : Int) : ∀ u ∈ [Value.string p, .int .u32 v], u.oneCell' = true := by
  intro u hu
  simp at hu
  rcases hu with rfl | rfl <;> rfl
theorem row_kept {B E z n : Nat} {wa wb : World} {u : Value} {xs : List Value} (h : wa.ownsRow B E z u n xs) (hk : ∀ k, B ≤ k → k < wa.heap.size → wb.heap[k]? = wa.heap[k]?) : wb.ownsRow B E z u n xs := by
  refine ⟨h.1, ?_⟩
  rcases h.2 with h2 | ⟨g, cap, cur, hvv, hgb, hh, r⟩
  · exact .inl h2
  · exact .inr ⟨g, cap, cur, hvv, hgb, by rw [hk g hgb (Array.getElem?_eq_some_iff.1 hh).1]; exact hh, r⟩
/-- A row of entries of one's own. -/
def Own (w : World) (B : Nat) (v : Value) (l : List (ByteArray × Int)) : Prop := w.ownsRow B 39 2 v l.length (enCells l)
theorem Own.nil (w : World) (B : Nat) : Own w B (.slice none 0 0) [] := World.ownsRow_nil _ _ _ _
theorem Own.at {w : World} {B : Nat} {v : Value} {l : List (ByteArray × Int)} (h : Own w B v l) : ∃ a c, v = .slice a l.length c ∧ EnAt w a l ∧ l.length ≤ c ∧ c ≤ maxLen := en_row h
theorem Own.mono {w : World} {B C : Nat} {v : Value} {l : List (ByteArray × Int)} (h : Own w B v l) (hc : C ≤ B) : Own w C v l := by
  refine ⟨h.1, ?_⟩
  rcases h.2 with h2 | ⟨g, cap, cur, hvv, hgb, r⟩
  · exact .inl h2
  · exact .inr ⟨g, cap, cur, hvv, by omega, r⟩
theorem Own.lt {w : World} {B : Nat} {v : Value} {l : List (ByteArray × Int)} (h : Own w B v l) : ∀ k, v.ownBlock = some k → B ≤ k ∧ k < w.heap.size := World.ownsRow.lt h
/-- The same row where its block stands as it was. -/
theorem Own.keep {w w' : World} {B : Nat} {v : Value} {l : List (ByteArray × Int)} (h : Own w B v l) (hk : ∀ k, v.ownBlock = some k → w'.heap[k]? = w.heap[k]?) : Own w' B v l := by
  refine ⟨h.1, ?_⟩
  rcases h.2 with h2 | ⟨g, cap, cur, hvv, hgb, hh, r⟩
  · exact .inl h2
  · exact .inr ⟨g, cap, cur, hvv, hgb, by rw [hk g (by rw [hvv]; rfl)]; exact hh, r⟩
theorem Own.below {w w' : World} {B : Nat} {v : Value} {l : List (ByteArray × Int)} (h : Own w B v l) (hb : Below w.heap.size w w') : Own w' B v l :=
  h.keep fun k hk => hb.block k (h.lt k hk).2
theorem Own.alloc {w : World} {B : Nat} {v : Value} {l : List (ByteArray × Int)} (h : Own w B v l) (o : Obj) : Own (w.alloc o) B v l := h.below (bl_alloc (Below.refl _ w) o)

/-- All that stood is as it was but for one block. -/
theorem gb_refl (w : World) (r : Option Nat) : w.grownBy w r := ⟨rfl, rfl, rfl, Nat.le_refl _, fun _ _ _ => rfl⟩
theorem gb_trans {w x y : World} {r s : Option Nat} (h : w.grownBy x r) (k : x.grownBy y s) (hs : ∀ i, s = some i → r = some i ∨ w.heap.size ≤ i) : w.grownBy y r :=
  ⟨k.os.trans h.os, k.tape.trans h.tape, k.output.trans h.output, Nat.le_trans h.size k.size, fun i hi hn => by
    rw [k.block i (Nat.lt_of_lt_of_le hi h.size) (fun e => by rcases hs i e.symm with e2 | e2; exact hn e2.symm; omega)]
    exact h.block i hi hn⟩
theorem gb_below {w x y : World} {r : Option Nat} (h : w.grownBy x r) (k : Below x.heap.size x y) : w.grownBy y r :=
  ⟨k.os.trans h.os, k.tape.trans h.tape, k.output.trans h.output, Nat.le_trans h.size k.size, fun i hi hn => by
    rw [k.block i (Nat.lt_of_lt_of_le hi h.size)]
    exact h.block i hi hn⟩
theorem gb_to_below {w x y : World} {r : Option Nat} {B : Nat} (h : Below B w x) (k : x.grownBy y r) (hB : B ≤ x.heap.size) (hr : ∀ i, r = some i → B ≤ i) : Below B w y :=
  h.trans ⟨k.os, k.tape, k.output, Nat.le_trans (by omega) k.size, fun i hi => k.block i (by omega) (fun e => by have := hr i e.symm; omega)⟩
theorem gb_own {w x : World} {r : Option Nat} {B : Nat} {v : Value} {l : List (ByteArray × Int)} (h : Own w B v l) (k : w.grownBy x r) (hr : v.ownBlock = none ∨ v.ownBlock ≠ r) : Own x B v l :=
  h.keep fun i hi => k.block i (h.lt i hi).2 (fun e => by rcases hr with h1 | h1; rw [h1] at hi; exact absurd hi (by simp); exact h1 (by rw [hi, e]))
theorem gb_set {w x : World} {g o : Nat} {u : Value} (h : w.grownBy x (some g)) : w.grownBy (x.setCell ⟨g, o, none⟩ u) (some g) :=
  ⟨h.os, h.tape, h.output, by simp [World.setCell]; exact h.size, fun i hi hn => by rw [heap_setCell_other _ _ _ _ (fun e => hn (by rw [e]))]; exact h.block i hi hn⟩
theorem gb_EnAt {w x : World} {r : Option Nat} {a : Option Addr} {l : List (ByteArray × Int)} (h : EnAt w a l) (k : w.grownBy x r) (hr : ∀ p, a = some p → some p.block ≠ r) : EnAt x a l := fun i hi => by
  obtain ⟨b, off, h1, h0, h2, h3⟩ := h i hi
  have e := k.block b h0 (hr _ h1)
  exact ⟨b, off, h1, Nat.lt_of_lt_of_le h0 k.size, by rw [World.cell?_of_block e]; exact h2, by rw [World.cell?_of_block e]; exact h3⟩

/-- Storing an entry in a row of one's own. -/
theorem enCells_set (l : List (ByteArray × Int)) (p : ByteArray) (v : Int) : ∀ k, k < l.length → (((enCells l).set (k * 2) (.string p)).set (k * 2 + 1) (.int .u32 v)) = enCells (l.set k (p, v)) := by
  induction l with
  | nil => intro k h; simp at h
  | cons x r ih =>
    intro k h
    have e : enCells (x :: r) = .string x.1 :: .int .u32 x.2 :: enCells r := rfl
    match k, h with
    | 0, _ => rw [e]; rfl
    | k + 1, h =>
      rw [e, show (k + 1) * 2 = k * 2 + 1 + 1 from by omega]
      simp only [List.set_cons_succ]
      rw [ih k (by simpa using h)]
      rfl
theorem own_form {w : World} {B : Nat} {v : Value} {l : List (ByteArray × Int)} (h : Own w B v l) (h0 : 0 < l.length) : ∃ g cap cur, v = .slice (some ⟨g, 0, none⟩) l.length cap ∧ B ≤ g ∧ w.heap[g]? = some (.cells cur 39 (0, 0)) ∧ l.length ≤ cap ∧ cap ≤ maxLen ∧ cur.size = cap * 2 ∧ cur.toList.take (l.length * 2) = enCells l := by
  rcases h.2 with ⟨_, h2⟩ | h2
  · omega
  · exact h2
theorem Own.set {w : World} {B g cap : Nat} {l : List (ByteArray × Int)} (h : Own w B (.slice (some ⟨g, 0, none⟩) l.length cap) l) {k : Nat} (hk : k < l.length) (p : ByteArray) (v : Int) :
    Own ((w.setCell ⟨g, k * 2, none⟩ (.string p)).setCell ⟨g, k * 2 + 1, none⟩ (.int .u32 v)) B (.slice (some ⟨g, 0, none⟩) l.length cap) (l.set k (p, v)) := by
  obtain ⟨g', cap', cur, hv, hB, hh, hn, hm, hs, ht⟩ := own_form h (by omega)
  cases hv
  refine ⟨by rw [enCells_len, List.length_set], .inr ⟨g, cap, (cur.setIfInBounds (k * 2) (.string p)).setIfInBounds (k * 2 + 1) (.int .u32 v), by rw [List.length_set], hB, ?_, by rw [List.length_set]; exact hn, hm, by simp [hs], ?_⟩⟩
  · rw [heap_setCell_same _ _ _ _ _ _ (heap_setCell_same _ _ _ _ _ _ hh)]
  · rw [List.length_set, Array.toList_setIfInBounds, Array.toList_setIfInBounds, List.take_set, List.take_set, ht, enCells_set l p v k hk]
/-- The cells of a row of one's own: there, and not frozen. -/
theorem Own.cells {w : World} {B g cap : Nat} {l : List (ByteArray × Int)} (h : Own w B (.slice (some ⟨g, 0, none⟩) l.length cap) l) {k : Nat} (hk : k < l.length) :
    w.cell? ⟨g, k * 2, none⟩ = some (.string l[k].1) ∧ w.cell? ⟨g, k * 2 + 1, none⟩ = some (.int .u32 l[k].2) ∧ w.frozen? ⟨g, k * 2, none⟩ = false ∧ w.frozen? ⟨g, k * 2 + 1, none⟩ = false := by
  obtain ⟨g', cap', cur, hv, hB, hh, hn, hm, hs, ht⟩ := own_form h (by omega)
  cases hv
  obtain ⟨a, c, hv, ha, _⟩ := Own.at h
  cases hv
  obtain ⟨b, off, h1, _, h2, h3⟩ := ha k hk
  cases h1
  rw [Nat.zero_add] at h2 h3
  exact ⟨h2, h3, by simp [World.frozen?, hh], by simp [World.frozen?, hh]⟩

set_option maxHeartbeats 1000000 in
set_option maxRecDepth 100000 in
theorem tClone (l : List (ByteArray × Int)) (a : Option Addr) (c : Nat) (hl : l.length ≤ 1099511627776) (w : World) (h : EnAt w a l) :
    Calls Try.prog 36 #[.slice a l.length c] w fun e w' => ∃ v', e = .returned v' ∧ Own w' w.heap.size v' l ∧ Below w.heap.size w w' := by
  obtain ⟨i0, hi, hz0, hz1, hz2⟩ := info_parts infoEntry
  have q22 : ∀ (w : World) (a : Option Addr) (n c n' c' : Nat), (binOp .eql 22 (.slice a n c) (.slice none n' c')).run Try.prog w = .ok (.bool a.isNone) w := fun w a n c n' c' => Lib.run_eql_slice_nil w _ _ a n c n' c' Try.underlying22
  cases a with
  | none =>
    have hl0 : l = [] := by
      cases l with
      | nil => rfl
      | cons x r => obtain ⟨b, off, h1, _⟩ := h 0 (by simp); exact absurd h1 (by simp)
    subst hl0
    clear h
    go_enter Try.func36, Try.ntmps36
    go_wp2
    go_ret
    exact ⟨_, rfl, Own.nil _ _, Below.refl _ _⟩
  | some p =>
    have hc : ∀ j u, (enCells l)[j]? = some u → w.cell? (p.add j) = some u := by
      intro j u hj
      have hjl : j < (enCells l).length := (List.getElem?_eq_some_iff.1 hj).1
      rw [enCells_len] at hjl
      obtain ⟨b', off', h1, _⟩ := h 0 (by omega)
      cases h1
      exact h.cells j u hj
    have HC := Lib.hid hc
    clear h hc
    go_enter Try.func36, Try.ntmps36
    go_wp2_with (at_builtin; refine wpList_append_own _ rfl _ _ 22 rfl w.heap.size 39 i0 (.agg #[.string ⟨#[]⟩, .int .u32 0]) 2 24 Try.underlying22 hi hz0 hz1 hz2 rfl (by decide) _ _ _ rfl (World.ownsRow_made w #[] 0 (Nat.le_refl _) (Nat.zero_le _) (by simp)) p l.length c (enCells l) rfl ?qc1 ?qc2 ?qc3 ?qc4 ?qc5 ?qc6 ?_)
    case qc1 => exact enCells_len l
    case qc2 =>
      intro j u hj
      exact Lib.cell?_alloc_some _ (HC.out j u hj)
    case qc3 => exact enCells_one l
    case qc4 => unfold maxLen; omega
    case qc5 => omega
    case qc6 => simp
    intro v' w1 hown hgrow hnil
    go_wp2
    go_ret
    refine ⟨v', rfl, by simpa [Own] using hown, ?_⟩
    exact ((Below.refl _ w).alloc (Nat.le_refl _) _).grown hgrow (by simp) (by intro k hk; simp [Value.ownBlock] at hk; omega)
end Go.Proofs.Ytdjpmgkcgpkkmaa
