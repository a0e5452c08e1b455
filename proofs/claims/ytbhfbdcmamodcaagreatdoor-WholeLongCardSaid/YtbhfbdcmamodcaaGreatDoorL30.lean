/- Layer 8: rows with room: made, and filled in place; Walks of layer 8: a copy with marked room; is it kept?; writing over an answer. -/
import Derived.Test.YtbhfbdcmamodcaaGreatDoorL29
import Derived.Deep.AppendSrc
import Derived.Laws.MakeOwn
import Derived.Deep.Upon
set_option linter.unusedVariables false
set_option linter.unusedSimpArgs false
namespace Go.Proofs.YtbhfbdcmamodcaaGreatDoor
open Go.RowKit TrMath
def OwnB (w : World) (B g cap : Nat) (l : List (ByteArray × Int)) : Prop :=
  ∃ cur : Array Value, B ≤ g ∧ w.heap[g]? = some (.cells cur 86 (0, 0)) ∧ l.length ≤ cap ∧ cap ≤ maxLen ∧ cur.size = cap * 2 ∧ cur.toList.take (l.length * 2) = enCells l
theorem OwnB.own {w : World} {B g cap : Nat} {l : List (ByteArray × Int)} (h : OwnB w B g cap l) : Own w B (.slice (some ⟨g, 0, none⟩) l.length cap) l := by
  obtain ⟨cur, hB, hh, hn, hm, hs, ht⟩ := h
  exact ⟨enCells_len l, .inr ⟨g, cap, cur, rfl, hB, hh, hn, hm, hs, ht⟩⟩
theorem Own.block {w : World} {B g cap : Nat} {l : List (ByteArray × Int)} (h : Own w B (.slice (some ⟨g, 0, none⟩) l.length cap) l) : OwnB w B g cap l := by
  rcases h.2 with ⟨h1, _⟩ | ⟨g', cap', cur, hv, hB, hh, hn, hm, hs, ht⟩
  · exact absurd h1 (by simp)
  · cases hv
    exact ⟨cur, hB, hh, hn, hm, hs, ht⟩
theorem OwnB.lt {w : World} {B g cap : Nat} {l : List (ByteArray × Int)} (h : OwnB w B g cap l) : g < w.heap.size := by
  obtain ⟨cur, _, hh, _⟩ := h
  exact (Array.getElem?_eq_some_iff.1 hh).1
theorem OwnB.keep {w w' : World} {B g cap : Nat} {l : List (ByteArray × Int)} (h : OwnB w B g cap l) (hk : w'.heap[g]? = w.heap[g]?) : OwnB w' B g cap l := by
  obtain ⟨cur, hB, hh, r⟩ := h
  exact ⟨cur, hB, by rw [hk]; exact hh, r⟩
theorem OwnB.below {w w' : World} {B g cap : Nat} {l : List (ByteArray × Int)} (h : OwnB w B g cap l) (hb : Below w.heap.size w w') : OwnB w' B g cap l := h.keep (hb.block g h.lt)
theorem OwnB.mono {w : World} {B C g cap : Nat} {l : List (ByteArray × Int)} (h : OwnB w B g cap l) (hc : C ≤ B) : OwnB w C g cap l := by
  obtain ⟨cur, hB, r⟩ := h
  exact ⟨cur, by omega, r⟩
theorem OwnB.at {w : World} {B g cap : Nat} {l : List (ByteArray × Int)} (h : OwnB w B g cap l) : EnAt w (some ⟨g, 0, none⟩) l := by
  obtain ⟨a, c, hv, ha, _⟩ := Own.at h.own
  cases hv
  exact ha
theorem OwnB.take {w : World} {B g cap : Nat} {l : List (ByteArray × Int)} (h : OwnB w B g cap l) (n : Nat) : OwnB w B g cap (l.take n) := by
  obtain ⟨cur, hB, hh, hn, hm, hs, ht⟩ := h
  refine ⟨cur, hB, hh, by rw [List.length_take]; omega, hm, hs, ?_⟩
  have e : ∀ (l : List (ByteArray × Int)) n, (enCells l).take (n * 2) = enCells (l.take n) := by
    intro l
    induction l with
    | nil => intro n; simp [enCells]
    | cons x r ih =>
      intro n
      have e : enCells (x :: r) = .string x.1 :: .int .u32 x.2 :: enCells r := rfl
      match n with
      | 0 => simp [enCells]
      | n + 1 => rw [e, show (n + 1) * 2 = n * 2 + 1 + 1 from by omega]; simp only [List.take_succ_cons]; rw [ih]; rfl
  have e2 : (cur.toList.take (l.length * 2)).take (n * 2) = enCells (l.take n) := by rw [ht, e]
  rw [List.take_take] at e2
  rw [← e2, List.length_take]
  congr 1
  rcases Nat.le_total n l.length with h1 | h1
  · rw [Nat.min_eq_left h1, Nat.min_eq_left (by omega)]
  · rw [Nat.min_eq_right h1, Nat.min_eq_right (by omega)]
theorem enCells_append (l m : List (ByteArray × Int)) : enCells (l ++ m) = enCells l ++ enCells m := by simp [enCells]
theorem setCells_block (g : Nat) (t : TypeId) : ∀ (vs : List Value) (o : Nat) (cur : Array Value) (w : World), w.heap[g]? = some (.cells cur t (0, 0)) → o + vs.length ≤ cur.size →
    ∃ cur', (w.setCells g o vs).heap[g]? = some (.cells cur' t (0, 0)) ∧ cur'.toList = cur.toList.take o ++ vs ++ cur.toList.drop (o + vs.length) := by
  intro vs
  induction vs with
  | nil => intro o cur w h hl; exact ⟨cur, h, by simp⟩
  | cons v r ih =>
    intro o cur w h hl
    rw [List.length_cons] at hl
    obtain ⟨cur', h1, h2⟩ := ih (o + 1) (cur.setIfInBounds o v) (w.setCell ⟨g, o, none⟩ v) (heap_setCell_same _ _ _ _ _ _ h) (by simp; omega)
    refine ⟨cur', h1, ?_⟩
    rw [h2, Array.toList_setIfInBounds, List.length_cons]
    have ho : o < cur.toList.length := by rw [Array.length_toList]; omega
    rw [List.take_succ_eq_append_getElem (by rw [List.length_set]; exact ho), List.getElem_set_self, List.take_set_of_le (Nat.le_refl _), List.drop_set_of_lt (by omega)]
    simp [Nat.add_assoc, Nat.add_comm 1]
theorem OwnB.push {w : World} {B g cap : Nat} {l xs : List (ByteArray × Int)} (h : OwnB w B g cap l) (hr : l.length + xs.length ≤ cap) : OwnB (w.setCells g (l.length * 2) (enCells xs)) B g cap (l ++ xs) := by
  obtain ⟨cur, hB, hh, hn, hm, hs, ht⟩ := h
  obtain ⟨cur', h1, h2⟩ := setCells_block g _ (enCells xs) (l.length * 2) cur w hh (by rw [enCells_len, hs]; omega)
  have hc : cur'.size = cap * 2 := by rw [← Array.length_toList, h2]; simp [enCells_len, hs]; omega
  refine ⟨cur', hB, h1, by rw [List.length_append]; omega, hm, hc, ?_⟩
  rw [h2, ht, enCells_append, List.length_append, List.take_append_of_le_length (by simp [enCells_len]; omega)]
  exact List.take_of_length_le (by simp [enCells_len]; omega)
section
variable {ops : Array Oper} {rest : List Oper} {o : Oper} {a : Act} {Q : Exit → Act → World → Prop}
end
end Go.Proofs.YtbhfbdcmamodcaaGreatDoor
namespace Go.Proofs.YtbhfbdcmamodcaaGreatDoor
open Go.RowKit TrMath
def spP : ByteArray := ⟨#[115, 112, 97, 114, 101]⟩
def rmP : ByteArray := ⟨#[114, 111, 111, 109]⟩
def sp : List (ByteArray × Int) := [(spP, 9), (rmP, 8)]
end Go.Proofs.YtbhfbdcmamodcaaGreatDoor
