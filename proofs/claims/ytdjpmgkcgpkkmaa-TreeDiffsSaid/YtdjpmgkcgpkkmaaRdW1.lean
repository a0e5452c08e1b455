/- Walks of layer 2: the two readers: place, error, what is left, raw bytes. -/
import Derived.Test.YtdjpmgkcgpkkmaaPackW4
import Derived.Test.YtdjpmgkcgpkkmaaRdMath
import Derived.BigQuiet
import Derived.Laws.DeepStrings4
set_option linter.unusedVariables false
set_option linter.unusedSimpArgs false
namespace Go.Proofs.Ytdjpmgkcgpkkmaa
open Go.RowKit PackMath

/-- A reader at block p. -/
structure IsRd (T : TypeId) (w : World) (p : Nat) (s : ByteArray) (at_ e : Nat) : Prop where
  cell : w.heap[p]? = some (.cells #[.string s, .int .i64 at_, .int .i64 e] T (0, 0))
  le : at_ ≤ s.size
  small : s.size < 281474976710656

/-- What a reading leaves as it was: all but the reader's own block. -/
structure Kept (w w' : World) (p : Nat) : Prop where
  os : w'.os = w.os
  tape : w'.tape = w.tape
  output : w'.output = w.output
  size : w.heap.size ≤ w'.heap.size
  block : ∀ k, k < w.heap.size → k ≠ p → w'.heap[k]? = w.heap[k]?

theorem Kept.refl (w : World) (p : Nat) : Kept w w p := ⟨rfl, rfl, rfl, Nat.le_refl _, fun _ _ _ => rfl⟩
theorem Kept.trans {w x y : World} {p : Nat} (h : Kept w x p) (k : Kept x y p) : Kept w y p :=
  ⟨k.os.trans h.os, k.tape.trans h.tape, k.output.trans h.output, Nat.le_trans h.size k.size, fun i hi hp => (k.block i (Nat.lt_of_lt_of_le hi h.size) hp).trans (h.block i hi hp)⟩
theorem Kept.below {B : Nat} {w w' : World} {p : Nat} (h : Kept w w' p) (hB : B ≤ p) (hs : B ≤ w.heap.size) : Below B w w' :=
  ⟨h.os, h.tape, h.output, h.size, fun i hi => h.block i (by omega) (by omega)⟩
theorem Kept.ofBelow {w w' : World} (p : Nat) (h : Below w.heap.size w w') : Kept w w' p := ⟨h.os, h.tape, h.output, h.size, fun i hi _ => h.block i hi⟩
theorem Kept.set (w : World) (p o : Nat) (v : Value) : Kept w (w.setCell ⟨p, o, none⟩ v) p :=
  ⟨rfl, rfl, rfl, by simp [World.setCell], fun k _ hp => heap_setCell_other w _ k v hp⟩

theorem IsRd.at1 {T : TypeId} {w : World} {p : Nat} {s : ByteArray} {a e : Nat} (h : IsRd T w p s a e) (b : Nat) (hb : b ≤ s.size) : IsRd T (w.setCell ⟨p, 1, none⟩ (.int .i64 b)) p s b e :=
  ⟨by rw [heap_setCell_same w p 1 _ _ _ h.cell]; rfl, hb, h.small⟩
theorem IsRd.err {T : TypeId} {w : World} {p : Nat} {s : ByteArray} {a e : Nat} (h : IsRd T w p s a e) (b : Nat) : IsRd T (w.setCell ⟨p, 2, none⟩ (.int .i64 b)) p s a b :=
  ⟨by rw [heap_setCell_same w p 2 _ _ _ h.cell]; rfl, h.le, h.small⟩
theorem IsRd.cells {T : TypeId} {w : World} {p : Nat} {s : ByteArray} {a e : Nat} (h : IsRd T w p s a e) :
    w.cell? ⟨p, 0, none⟩ = some (.string s) ∧ w.cell? ⟨p, 1, none⟩ = some (.int .i64 a) ∧ w.cell? ⟨p, 2, none⟩ = some (.int .i64 e) ∧ w.frozen? ⟨p, 0, none⟩ = false ∧ w.frozen? ⟨p, 1, none⟩ = false ∧ w.frozen? ⟨p, 2, none⟩ = false :=
  ⟨by rw [cell_of_row _ _ _ _ _ _ h.cell]; rfl, by rw [cell_of_row _ _ _ _ _ _ h.cell]; rfl, by rw [cell_of_row _ _ _ _ _ _ h.cell]; rfl, frozen_of_row _ _ _ _ _ h.cell, frozen_of_row _ _ _ _ _ h.cell, frozen_of_row _ _ _ _ _ h.cell⟩
theorem IsRd.keep {T : TypeId} {w w' : World} {p q : Nat} {s : ByteArray} {a e : Nat} (h : IsRd T w p s a e) (k : Kept w w' q) (hpq : p ≠ q) : IsRd T w' p s a e :=
  ⟨by rw [k.block p (Array.getElem?_eq_some_iff.1 h.cell).1 hpq]; exact h.cell, h.le, h.small⟩

abbrev TR : TypeId := 92
abbrev TX : TypeId := 102

section
variable (p : Nat) (s : ByteArray) (a e : Nat) (w : World)

theorem rErr (h : IsRd TR w p s a e) : Calls Try.prog 75 #[.pointer (some ⟨p, 0, none⟩)] w fun r w' => r = .returned (.int .i64 e) ∧ w = w' := by
  obtain ⟨c0, c1, c2, f0, f1, f2⟩ := h.cells
  clear h
  go_enter Try.func75, Try.ntmps75
  go_wp2
  go_ret
  exact ⟨rfl, rfl⟩
theorem rLeft (h : IsRd TR w p s a e) : Calls Try.prog 73 #[.pointer (some ⟨p, 0, none⟩)] w fun r w' => r = .returned (.int .i64 ((s.size : Int) - a)) ∧ Kept w w' p ∧ IsRd TR w' p s a e := by
  obtain ⟨c0, c1, c2, f0, f1, f2⟩ := h.cells
  have hsub : IntKind.i64.wrap ((s.size : Int) - a) = (s.size : Int) - a := IntWalk.i64_in _ (by have := h.le; have := h.small; omega)
  have HR := Lib.hid h
  clear h
  go_enter Try.func73, Try.ntmps73
  go_wp2
  go_quiet (fail)
  go_wp2
  go_ret
  exact ⟨rfl, ⟨rfl, rfl, rfl, Nat.le_refl _, fun _ _ _ => rfl⟩, HR.out.cell, HR.out.le, HR.out.small⟩
theorem xLeft (h : IsRd TX w p s a e) : Calls Try.prog 79 #[.pointer (some ⟨p, 0, none⟩)] w fun r w' => r = .returned (.int .i64 ((s.size : Int) - a)) ∧ Kept w w' p ∧ IsRd TX w' p s a e := by
  obtain ⟨c0, c1, c2, f0, f1, f2⟩ := h.cells
  have hsub : IntKind.i64.wrap ((s.size : Int) - a) = (s.size : Int) - a := IntWalk.i64_in _ (by have := h.le; have := h.small; omega)
  have HR := Lib.hid h
  clear h
  go_enter Try.func79, Try.ntmps79
  go_wp2
  go_quiet (fail)
  go_wp2
  go_ret
  exact ⟨rfl, ⟨rfl, rfl, rfl, Nat.le_refl _, fun _ _ _ => rfl⟩, HR.out.cell, HR.out.le, HR.out.small⟩
/-- The first error stays. -/
theorem rFail (k : Nat) (h : IsRd TR w p s a e) : Calls Try.prog 74 #[.pointer (some ⟨p, 0, none⟩), .int .i64 k] w fun r w' => r = .returned (.int .i64 (if e = 0 then k else e : Nat)) ∧ Kept w w' p ∧ IsRd TR w' p s a (if e = 0 then k else e) := by
  obtain ⟨c0, c1, c2, f0, f1, f2⟩ := h.cells
  have HR := Lib.hid h
  clear h
  by_cases he : e = 0
  · subst he
    go_enter Try.func74, Try.ntmps74
    go_wp2
    go_ret
    exact ⟨rfl, Kept.set _ _ _ _, HR.out.err k⟩
  · have hd : ((e : Int) == 0) = false := by simp; omega
    have HE := Lib.hid he
    clear he
    go_enter Try.func74, Try.ntmps74
    go_wp2
    go_ret
    exact ⟨rfl, Kept.refl _ _, HR.out⟩
theorem xFail (k : Nat) (h : IsRd TX w p s a e) : Calls Try.prog 80 #[.pointer (some ⟨p, 0, none⟩), .int .i64 k] w fun r w' => r = .returned (.int .i64 k) ∧ Kept w w' p ∧ IsRd TX w' p s a k := by
  obtain ⟨c0, c1, c2, f0, f1, f2⟩ := h.cells
  have HR := Lib.hid h
  clear h
  go_enter Try.func80, Try.ntmps80
  go_wp2
  go_ret
  exact ⟨rfl, Kept.set _ _ _ _, HR.out.err k⟩
end

theorem rd_new (w : World) (s : ByteArray) (hs : s.size < 281474976710656) :
    Calls Try.prog 54 #[.string s] w fun r w' => r = .returned (.pointer (some ⟨w.heap.size, 0, none⟩)) ∧ Below w.heap.size w w' ∧ IsRd TR w' w.heap.size s 0 0 := by
  go_enter Try.func54, Try.ntmps54
  go_wp2
  go_ret
  exact ⟨rfl, bl_alloc (Below.refl _ _) _, heap_alloc_new _ _, Nat.zero_le _, hs⟩
theorem rx_new (w : World) (s : ByteArray) (hs : s.size < 281474976710656) :
    Calls Try.prog 63 #[.string s] w fun r w' => r = .returned (.pointer (some ⟨w.heap.size, 0, none⟩)) ∧ Below w.heap.size w w' ∧ IsRd TX w' w.heap.size s 0 0 := by
  go_enter Try.func63, Try.ntmps63
  go_wp2
  go_ret
  exact ⟨rfl, bl_alloc (Below.refl _ _) _, heap_alloc_new _ _, Nat.zero_le _, hs⟩
end Go.Proofs.Ytdjpmgkcgpkkmaa
