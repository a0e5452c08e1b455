/- Walks of layer 2: the two readers: place, error, what is left, raw bytes; Walks of layer 2: the two readers: numbers of some bytes; Walk of the law PackShort; Walks of layer 2: the short numbers of the document's reader; Walks of layer 2: one call of both readers ('read'), kind by kind; The whole: readers, by what is still to come. -/
import Derived.Test.YtbhfbdcmamodcaaGreatDoorL11
import Derived.Test.YtbhfbdcmamodcaaGreatDoorL01
import Derived.Test.YtbhfbdcmamodcaaGreatDoorL04
import Derived.BigQuiet
import Derived.Laws.DeepStrings4
import Derived.BigRegion
set_option linter.unusedVariables false
set_option linter.unusedSimpArgs false
namespace Go.Proofs.YtbhfbdcmamodcaaGreatDoor
open Go.RowKit PackMath
structure IsRd (T : TypeId) (w : World) (p : Nat) (s : ByteArray) (at_ e : Nat) : Prop where
  cell : w.heap[p]? = some (.cells #[.string s, .int .i64 at_, .int .i64 e] T (0, 0))
  le : at_ ≤ s.size
  small : s.size < 281474976710656
structure Kept (w w' : World) (p : Nat) : Prop where
  os : w'.os = w.os
  tape : w'.tape = w.tape
  output : w'.output = w.output
  size : w.heap.size ≤ w'.heap.size
  block : ∀ k, k < w.heap.size → k ≠ p → w'.heap[k]? = w.heap[k]?
theorem Kept.refl (w : World) (p : Nat) : Kept w w p := ⟨rfl, rfl, rfl, Nat.le_refl _, fun _ _ _ => rfl⟩
theorem Kept.trans {w x y : World} {p : Nat} (h : Kept w x p) (k : Kept x y p) : Kept w y p :=
  ⟨k.os.trans h.os, k.tape.trans h.tape, k.output.trans h.output, Nat.le_trans h.size k.size, fun i hi hp => (k.block i (Nat.lt_of_lt_of_le hi h.size) hp).trans (h.block i hi hp)⟩
theorem Kept.below {B : Nat} {w w' : World} {p : Nat} (h : Kept w w' p) (hB : B ≤ p) (hs : B ≤ w.heap.size) : Below B w w' :=
  ⟨h.os, h.tape, h.output, h.size, fun i hi => h.block i (by omega) (by omega)⟩
theorem Kept.set (w : World) (p o : Nat) (v : Value) : Kept w (w.setCell ⟨p, o, none⟩ v) p :=
  ⟨rfl, rfl, rfl, by simp [World.setCell], fun k _ hp => heap_setCell_other w _ k v hp⟩
theorem IsRd.at1 {T : TypeId} {w : World} {p : Nat} {s : ByteArray} {a e : Nat} (h : IsRd T w p s a e) (b : Nat) (hb : b ≤ s.size) : IsRd T (w.setCell ⟨p, 1, none⟩ (.int .i64 b)) p s b e :=
  ⟨by rw [heap_setCell_same w p 1 _ _ _ h.cell]; rfl, hb, h.small⟩
theorem IsRd.cells {T : TypeId} {w : World} {p : Nat} {s : ByteArray} {a e : Nat} (h : IsRd T w p s a e) :
    w.cell? ⟨p, 0, none⟩ = some (.string s) ∧ w.cell? ⟨p, 1, none⟩ = some (.int .i64 a) ∧ w.cell? ⟨p, 2, none⟩ = some (.int .i64 e) ∧ w.frozen? ⟨p, 0, none⟩ = false ∧ w.frozen? ⟨p, 1, none⟩ = false ∧ w.frozen? ⟨p, 2, none⟩ = false :=
  ⟨by rw [cell_of_row _ _ _ _ _ _ h.cell]; rfl, by rw [cell_of_row _ _ _ _ _ _ h.cell]; rfl, by rw [cell_of_row _ _ _ _ _ _ h.cell]; rfl, frozen_of_row _ _ _ _ _ h.cell, frozen_of_row _ _ _ _ _ h.cell, frozen_of_row _ _ _ _ _ h.cell⟩
theorem IsRd.keep {T : TypeId} {w w' : World} {p q : Nat} {s : ByteArray} {a e : Nat} (h : IsRd T w p s a e) (k : Kept w w' q) (hpq : p ≠ q) : IsRd T w' p s a e :=
  ⟨by rw [k.block p (Array.getElem?_eq_some_iff.1 h.cell).1 hpq]; exact h.cell, h.le, h.small⟩
abbrev TR : TypeId := 291
section
variable (p : Nat) (s : ByteArray) (a e : Nat) (w : World)
end
end Go.Proofs.YtbhfbdcmamodcaaGreatDoor
namespace Go.Proofs.YtbhfbdcmamodcaaGreatDoor
open Go.RowKit PackMath
theorem IsRd.below {T : TypeId} {w w' : World} {p : Nat} {s : ByteArray} {a e : Nat} (h : IsRd T w p s a e) (k : Below w.heap.size w w') : IsRd T w' p s a e :=
  ⟨by rw [k.block p (Array.getElem?_eq_some_iff.1 h.cell).1]; exact h.cell, h.le, h.small⟩
end Go.Proofs.YtbhfbdcmamodcaaGreatDoor
namespace Go.Proofs.YtbhfbdcmamodcaaGreatDoor
open Go.RowKit PackMath
theorem IsWr.below {B p : Nat} {w w' : World} {v : Value} {bs : List UInt8} (h : IsWr B w p v bs) (k : Below w.heap.size w w') : IsWr B w' p v bs := by
  refine ⟨h.base, by rw [k.block p (Array.getElem?_eq_some_iff.1 h.cell).1]; exact h.cell, h.own.1, ?_⟩
  rcases h.own.2 with h2 | ⟨g, cap, cur, hvv, hgb, hh, r⟩
  · exact .inl h2
  · exact .inr ⟨g, cap, cur, hvv, hgb, by rw [k.block g (Array.getElem?_eq_some_iff.1 hh).1]; exact hh, r⟩
end Go.Proofs.YtbhfbdcmamodcaaGreatDoor
namespace Go.Proofs.YtbhfbdcmamodcaaGreatDoor
open Go.RowKit PackMath
theorem Kept.drewN (w : World) (p n : Nat) : Kept w (w.drewN n) p := ⟨rfl, rfl, rfl, Nat.le_refl _, fun _ _ _ => rfl⟩
end Go.Proofs.YtbhfbdcmamodcaaGreatDoor
namespace Go.Proofs.YtbhfbdcmamodcaaGreatDoor
open Go.RowKit PackMath
theorem IsRd.drewN {T : TypeId} {w : World} {p : Nat} {s : ByteArray} {a e : Nat} (h : IsRd T w p s a e) (n : Nat) : IsRd T (w.drewN n) p s a e := ⟨h.cell, h.le, h.small⟩
section
variable (p : Nat) (s : ByteArray) (a e : Nat) (w : World)
end
section
variable (B p q : Nat) (s : ByteArray) (a e : Nat) (w : World) (k n : Nat) (o : ByteArray)
end
end Go.Proofs.YtbhfbdcmamodcaaGreatDoor
namespace Go.Proofs.YtbhfbdcmamodcaaGreatDoor
open Go.RowKit PackMath
def RP (w : World) (p : Nat) (rest : List UInt8) : Prop := ∃ s a, IsRd TR w p s a 0 ∧ a ≤ s.size ∧ s.data.toList.drop a = rest
theorem RP.lt {w : World} {p : Nat} {rest : List UInt8} (h : RP w p rest) : p < w.heap.size := by
  obtain ⟨s, a, h1, _⟩ := h
  exact (Array.getElem?_eq_some_iff.1 h1.cell).1
theorem RP.keep {w x : World} {p q : Nat} {rest : List UInt8} (h : RP w p rest) (k : Kept w x q) (hpq : p ≠ q) : RP x p rest := by
  obtain ⟨s, a, h1, h2⟩ := h
  exact ⟨s, a, h1.keep k hpq, h2⟩
theorem RP.below {w x : World} {p : Nat} {rest : List UInt8} (h : RP w p rest) (hb : Below w.heap.size w x) : RP x p rest := by
  obtain ⟨s, a, h1, h2⟩ := h
  exact ⟨s, a, h1.below hb, h2⟩
theorem RP.upd {F : Foot} {w x : World} {p : Nat} {rest : List UInt8} (h : RP w p rest) (k : Upd F w x) (hp : ¬ F p) : RP x p rest := by
  have hl := h.lt
  obtain ⟨s, a, h1, h2⟩ := h
  exact ⟨s, a, ⟨(k.block p hl hp).trans h1.cell, h1.le, h1.small⟩, h2⟩
theorem Kept.upd {w x : World} {p : Nat} (h : Kept w x p) : Upd (· = p) w x := ⟨h.os, h.tape, h.output, h.size, fun k hk hn => h.block k hk hn⟩
section
variable {w : World} {p : Nat} {rest : List UInt8}
end
end Go.Proofs.YtbhfbdcmamodcaaGreatDoor
