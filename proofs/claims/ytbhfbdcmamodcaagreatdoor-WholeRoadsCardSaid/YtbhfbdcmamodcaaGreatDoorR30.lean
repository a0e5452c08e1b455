/- Layer 8: rows with room: made, and filled in place; Walks of layer 8: a copy with marked room; is it kept?; writing over an answer. -/
import Derived.Test.YtbhfbdcmamodcaaGreatDoorR29
import Derived.Deep.AppendSrc
import Derived.Laws.MakeOwn
import Derived.Deep.Upon
set_option linter.unusedVariables false
set_option linter.unusedSimpArgs false
namespace Go.Proofs.YtbhfbdcmamodcaaGreatDoor
open Go.RowKit TrMath
def OwnB (w : World) (B g cap : Nat) (l : List (ByteArray × Int)) : Prop :=
  ∃ cur : Array Value, B ≤ g ∧ w.heap[g]? = some (.cells cur 86 (0, 0)) ∧ l.length ≤ cap ∧ cap ≤ maxLen ∧ cur.size = cap * 2 ∧ cur.toList.take (l.length * 2) = enCells l
theorem OwnB.own {w : World} {B g cap : Nat} {l : List (ByteArray × Int)} (h : OwnB w B g cap l) : Own w B (.slice (some ⟨g, 0, none⟩) l.length cap) l := by
  obtain ⟨cur, hB, hh, hn, hm, hs, ht⟩ := h
  exact ⟨enCells_len l, .inr ⟨g, cap, cur, rfl, hB, hh, hn, hm, hs, ht⟩⟩
theorem Own.block {w : World} {B g cap : Nat} {l : List (ByteArray × Int)} (h : Own w B (.slice (some ⟨g, 0, none⟩) l.length cap) l) : OwnB w B g cap l := by
  rcases h.2 with ⟨h1, _⟩ | ⟨g', cap', cur, hv, hB, hh, hn, hm, hs, ht⟩
  · exact absurd h1 (by simp)
  · cases hv
    exact ⟨cur, hB, hh, hn, hm, hs, ht⟩
theorem OwnB.lt {w : World} {B g cap : Nat} {l : List (ByteArray × Int)} (h : OwnB w B g cap l) : g < w.heap.size := by
  obtain ⟨cur, _, hh, _⟩ := h
  exact (Array.getElem?_eq_some_iff.1 hh).1
theorem OwnB.keep {w w' : World} {B g cap : Nat} {l : List (ByteArray × Int)} (h : OwnB w B g cap l) (hk : w'.heap[g]? = w.heap[g]?) : OwnB w' B g cap l := by
  obtain ⟨cur, hB, hh, r⟩ := h
  exact ⟨cur, hB, by rw [hk]; exact hh, r⟩
theorem OwnB.below {w w' : World} {B g cap : Nat} {l : List (ByteArray × Int)} (h : OwnB w B g cap l) (hb : Below w.heap.size w w') : OwnB w' B g cap l := h.keep (hb.block g h.lt)
theorem OwnB.mono {w : World} {B C g cap : Nat} {l : List (ByteArray × Int)} (h : OwnB w B g cap l) (hc : C ≤ B) : OwnB w C g cap l := by
  obtain ⟨cur, hB, r⟩ := h
  exact ⟨cur, by omega, r⟩
theorem OwnB.at {w : World} {B g cap : Nat} {l : List (ByteArray × Int)} (h : OwnB w B g cap l) : EnAt w (some ⟨g, 0, none⟩) l := by
  obtain ⟨a, c, hv, ha, _⟩ := Own.at h.own
  cases hv
  exact ha
theorem OwnB.take {w : World} {B g cap : Nat} {l : List (ByteArray × Int)} (h : OwnB w B g cap l) (n : Nat) : OwnB w B g cap (l.take n) := by
  obtain ⟨cur, hB, hh, hn, hm, hs, ht⟩ := h
  refine ⟨cur, hB, hh, by rw [List.length_take]; omega, hm, hs, ?_⟩
  have e : ∀ (l : List (ByteArray × Int)) n, (enCells l).take (n * 2) = enCells (l.take n) := by
    intro l
    induction l with
    | nil => intro n; simp [enCells]
    | cons x r ih =>
      intro n
      have e : enCells (x :: r) = .string x.1 :: .int .u32 x.2 :: enCells r := rfl
      match n with
      | 0 => simp [enCells]
      | n + 1 => rw [e, show (n + 1) * 2 = n * 2 + 1 + 1 from by omega]; simp only [List.take_succ_cons]; rw [ih]; rfl
  have e2 : (cur.toList.take (l.length * 2)).take (n * 2) = enCells (l.take n) := by rw [ht, e]
  rw [List.take_take] at e2
  rw [← e2, List.length_take]
  congr 1
  rcases Nat.le_total n l.length with h1 | h1
  · rw [Nat.min_eq_left h1, Nat.min_eq_left (by omega)]
  · rw [Nat.min_eq_right h1, Nat.min_eq_right (by omega)]
theorem enCells_append (l m : List (ByteArray × Int)) : enCells (l ++ m) = enCells l ++ enCells m := by simp [enCells]
theorem src_en {w : World} {a : Option Addr} {c : Nat} {l : List (ByteArray × Int)} (h : EnAt w a l) : Src Tryz.prog 2 34 (.slice a l.length c) l.length (enCells l) w := by
  cases a with
  | none =>
    have hl0 : l = [] := by
      cases l with
      | nil => rfl
      | cons x r => obtain ⟨b, off, h1, _⟩ := h 0 (by simp); exact absurd h1 (by simp)
    subst hl0
    exact Src.ofNil w Tryz.underlying34 c
  | some p =>
    refine Src.ofSlice w Tryz.underlying34 p l.length c (enCells l) (enCells_len l) (fun j u hj => ?_) (enCells_one l)
    have hjl : j < (enCells l).length := (List.getElem?_eq_some_iff.1 hj).1
    rw [enCells_len] at hjl
    obtain ⟨b', off', h1, _⟩ := h 0 (by omega)
    cases h1
    exact h.cells j u hj
theorem setCells_block (g : Nat) (t : TypeId) : ∀ (vs : List Value) (o : Nat) (cur : Array Value) (w : World), w.heap[g]? = some (.cells cur t (0, 0)) → o + vs.length ≤ cur.size →
    ∃ cur', (w.setCells g o vs).heap[g]? = some (.cells cur' t (0, 0)) ∧ cur'.toList = cur.toList.take o ++ vs ++ cur.toList.drop (o + vs.length) := by
  intro vs
  induction vs with
  | nil => intro o cur w h hl; exact ⟨cur, h, by simp⟩
  | cons v r ih =>
    intro o cur w h hl
    rw [List.length_cons] at hl
    obtain ⟨cur', h1, h2⟩ := ih (o + 1) (cur.setIfInBounds o v) (w.setCell ⟨g, o, none⟩ v) (heap_setCell_same _ _ _ _ _ _ h) (by simp; omega)
    refine ⟨cur', h1, ?_⟩
    rw [h2, Array.toList_setIfInBounds, List.length_cons]
    have ho : o < cur.toList.length := by rw [Array.length_toList]; omega
    rw [List.take_succ_eq_append_getElem (by rw [List.length_set]; exact ho), List.getElem_set_self, List.take_set_of_le (Nat.le_refl _), List.drop_set_of_lt (by omega)]
    simp [Nat.add_assoc, Nat.add_comm 1]
theorem setCells_size (g : Nat) : ∀ (vs : List Value) (o : Nat) (w : World), (w.setCells g o vs).heap.size = w.heap.size ∧ (w.setCells g o vs).os = w.os ∧ (w.setCells g o vs).tape = w.tape ∧ (w.setCells g o vs).output = w.output := by
  intro vs
  induction vs with
  | nil => intro o w; exact ⟨rfl, rfl, rfl, rfl⟩
  | cons v r ih => intro o w; obtain ⟨h1, h2, h3, h4⟩ := ih (o + 1) (w.setCell ⟨g, o, none⟩ v); exact ⟨by rw [World.setCells, h1]; simp [World.setCell], h2, h3, h4⟩
theorem setCells_grown (g o : Nat) (vs : List Value) (w : World) : w.grownBy (w.setCells g o vs) (some g) := by
  obtain ⟨h1, h2, h3, h4⟩ := setCells_size g vs o w
  exact ⟨h2, h3, h4, by omega, fun k hk hn => World.heap_setCells_other w g o vs hk (fun e => hn (by rw [e]))⟩
theorem OwnB.push {w : World} {B g cap : Nat} {l xs : List (ByteArray × Int)} (h : OwnB w B g cap l) (hr : l.length + xs.length ≤ cap) : OwnB (w.setCells g (l.length * 2) (enCells xs)) B g cap (l ++ xs) := by
  obtain ⟨cur, hB, hh, hn, hm, hs, ht⟩ := h
  obtain ⟨cur', h1, h2⟩ := setCells_block g _ (enCells xs) (l.length * 2) cur w hh (by rw [enCells_len, hs]; omega)
  have hc : cur'.size = cap * 2 := by rw [← Array.length_toList, h2]; simp [enCells_len, hs]; omega
  refine ⟨cur', hB, h1, by rw [List.length_append]; omega, hm, hc, ?_⟩
  rw [h2, ht, enCells_append, List.length_append, List.take_append_of_le_length (by simp [enCells_len]; omega)]
  exact List.take_of_length_le (by simp [enCells_len]; omega)
section
variable {ops : Array Oper} {rest : List Oper} {o : Oper} {a : Act} {Q : Exit → Act → World → Prop}
theorem wpList_room (w : World) (hg : o.guard = none) (s x : Operand) (hop : o.op = Op.call { callee := Callee.builtin Builtin.append, args := #[s, x], argTypes := #[34, 34] })
    (B g cap n : Nat) (l : List (ByteArray × Int)) (hs : a.eval s = .slice (some ⟨g, 0, none⟩) n cap) (hn : l.length = n) (h : OwnB w B g cap l) (xv : Value) (hx : a.eval x = xv) (m : Nat) (xs : List (ByteArray × Int)) (hm : xs.length = m)
    (hsrc : Src Tryz.prog 2 34 xv m (enCells xs) w) (hroom : n + m ≤ cap)
    (hK : ∀ w1, OwnB w1 B g cap (l ++ xs) → w.grownBy w1 (some g) → w1.heap.size = w.heap.size → wpList Tryz.prog ops Q rest (a.put o.dst (.slice (some ⟨g, 0, none⟩) (n + m) cap)) w1) : wpList Tryz.prog ops Q (o :: rest) a w := by
  obtain ⟨i0, hi, hz0, hz1, hz2⟩ := info_parts infoEntry
  subst hn hm
  have hp := h.push (xs := xs) hroom
  obtain ⟨cur, hB, hh, hn, hm, hsz, ht⟩ := h
  refine wpList_plain hg fun K hK' => ?_
  have hcell : ∀ j, j < (enCells xs).length → (w.cell? ⟨g, 0 + l.length * i0.size + j, none⟩).isSome = true := fun j hj => by
    rw [enCells_len] at hj
    rw [hz1, Nat.zero_add]
    have hlt : l.length * 2 + j < cur.size := by rw [hsz]; omega
    simp [World.cell?, hh, hlt]
  have hfz : ∀ j, j < (enCells xs).length → w.frozen? ⟨g, 0 + l.length * i0.size + j, none⟩ = false := fun j hj => by simp [World.frozen?, hh]
  have hrun := run_append_room_src (P := Tryz.prog) (w := w) 34 34 o.type 86 i0 Tryz.underlying34 hi g 0 l.length cap xv xs.length (enCells xs) (by rw [hz1]; exact hsrc) hroom hcell hfz
  rw [hz1, Nat.zero_add] at hrun
  unfold Oper.wp
  simp [execOp, hop, resolve, invoke, builtin, hs, hx, hrun, Result.andThen]
  exact hK' _ _ (hK _ hp (setCells_grown _ _ _ _) (setCells_size _ _ _ _).1)
theorem wpList_made (w : World) (hg : o.guard = none) (lo hi : Operand) (hop : o.op = Op.makeSlice 34 lo hi) (hl : a.eval lo = .int .i64 0) (z : Int) (c : Nat) (hc : a.eval hi = .int .i64 z) (hz : z = c) (hb : c ≤ 5497558138880)
    (hK : ∀ w1, OwnB w1 w.heap.size w.heap.size c [] → Below w.heap.size w w1 → w1.heap.size = w.heap.size + 1 → wpList Tryz.prog ops Q rest (a.put o.dst (.slice (some ⟨w.heap.size, 0, none⟩) 0 c)) w1) : wpList Tryz.prog ops Q (o :: rest) a w := by
  obtain ⟨i0, hi, hz0, hz1, hz2⟩ := info_parts infoEntry
  subst hz
  have hr := Go.run_make (P := Tryz.prog) w 34 86 i0 (.agg #[.string ⟨#[]⟩, .int .u32 0]) Tryz.underlying34 hi hz0 .i64 .i64 0 c (Int.le_refl _) (by omega) (by rw [hz2]; omega) (by omega)
  refine wpList_plain hg fun K hK' => ?_
  simp only [Int.toNat_zero, Int.toNat_natCast] at hr
  unfold Oper.wp
  simp [execOp, hop, hl, hc, hr, Result.andThen]
  refine hK' _ _ (hK _ (Own.block (l := []) (World.ownsRow_made w _ c (Nat.le_refl _) (by unfold maxLen; omega) (by rw [size_madeCells, hz1]))) (bl_alloc (Below.refl _ w) _) (by simp))
end
end Go.Proofs.YtbhfbdcmamodcaaGreatDoor
namespace Go.Proofs.YtbhfbdcmamodcaaGreatDoor
open Go.RowKit TrMath
def spP : ByteArray := ⟨#[115, 112, 97, 114, 101]⟩
def rmP : ByteArray := ⟨#[114, 111, 111, 109]⟩
def sp : List (ByteArray × Int) := [(spP, 9), (rmP, 8)]
theorem en_alloc1 (w : World) (p : ByteArray) (v : Int) (t : TypeId) : EnAt (w.alloc (.cells #[.string p, .int .u32 v] t)) (some ⟨w.heap.size, 0, none⟩) [(p, v)] := by
  intro i hi
  match i, hi with
  | 0, _ => exact ⟨_, _, rfl, by simp, by rw [World.cell?_alloc_mark]; rfl, by rw [World.cell?_alloc_mark]; rfl⟩
end Go.Proofs.YtbhfbdcmamodcaaGreatDoor
