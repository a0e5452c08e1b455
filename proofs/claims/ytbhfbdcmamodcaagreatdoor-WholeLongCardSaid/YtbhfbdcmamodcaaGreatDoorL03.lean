/- Small facts on the model's numbers: exclusive or, and, shifts of unsigned numbers as those of natural numbers. -/
import Derived.WalkKit
import Derived.Lib.Hide
set_option linter.unusedVariables false
set_option linter.unusedSimpArgs false
namespace Go.Proofs.YtbhfbdcmamodcaaGreatDoor
open Go.RowKit
theorem ret_int {k : IntKind} {a b : Int} (h : a = b) : Ending.returned (.int k a) = .returned (.int k b) := by rw [h]
theorem ret_bool {a b : Bool} (h : a = b) : Ending.returned (.bool a) = .returned (.bool b) := by rw [h]
theorem b32_and1 (c : Nat) (hc : c < 4294967296) : bits .and .u32 (c : Int) 1 = ((c % 2 : Nat) : Int) := by
  have h := u32_and_nat c 1 hc (by decide)
  rw [Nat.and_one_is_mod] at h
  exact h
theorem b32_xor (a b : Nat) (ha : a < 4294967296) (hb : b < 4294967296) : bits .xor .u32 (a : Int) (b : Int) = ((a ^^^ b : Nat) : Int) := u32_xor_nat a b ha hb
theorem b8_xor (a b : Nat) (ha : a < 256) (hb : b < 256) : bits .xor .u8 (a : Int) (b : Int) = ((a ^^^ b : Nat) : Int) := u8_xor_nat a b ha hb

/-! Below, in steps: what lay below the first world's heap is as it was. -/
theorem bl_trans {w x y : World} (h : Below w.heap.size w x) (k : Below x.heap.size x y) : Below w.heap.size w y := h.trans (k.mono h.size)
theorem bl_alloc {w x : World} (h : Below w.heap.size w x) (o : Obj) : Below w.heap.size w (x.alloc o) := h.alloc h.size o
theorem bl_drew {w x : World} (h : Below w.heap.size w x) : Below w.heap.size w x.drew := h.drew
theorem bl_cell {w x : World} (h : Below w.heap.size w x) {b o : Nat} {v : Value} (hc : w.cell? ⟨b, o, none⟩ = some v) : x.cell? ⟨b, o, none⟩ = some v :=
  (h.cell (p := ⟨b, o, none⟩) (World.block_lt_of_cell? w _ hc)).trans hc
end Go.Proofs.YtbhfbdcmamodcaaGreatDoor
