/- Walks of layer 8: comparing paths; Walks of layer 8: entries as they lie; is a path too long?. -/
import Derived.Test.YtbhfbdcmamodcaaGreatDoorL03
import Derived.Test.YtbhfbdcmamodcaaGreatDoorL01
import Derived.Test.YtbhfbdcmamodcaaGreatDoorRows
import Derived.WalkKit
import Derived.WalkSpells
import Derived.WalkLawsBesides
import Derived.Lib.Bytealg
import Derived.Deep.RegionHeld3
set_option linter.unusedVariables false
set_option linter.unusedSimpArgs false
namespace Go.Proofs.YtbhfbdcmamodcaaGreatDoor
open Go.RowKit
set_option maxRecDepth 100000 in
theorem sCompareIn (a b : ByteArray) (w : World) : Calls Tryz.prog 260 #[.string a, .string b] w fun e w' => e = .returned (.int .i64 (Lib.compareBytes a.data.toList b.data.toList)) ∧ w' = w := by
  go_enter Tryz.func260, Tryz.ntmps260
  go_wp2
  rw [run_callFunc_extern Tryz.func270 (by kernel_rfl) (by kernel_rfl) (by kernel_rfl) (e := Extern.BytealgCompare.compare) (by kernel_rfl), Lib.run_compareString]
  simp only [Result.andThen]
  rw [Oper.upon_value]
  go_wp2
  go_ret
  exact ⟨rfl, rfl⟩
set_option maxRecDepth 100000 in
theorem sCompare (a b : ByteArray) (w : World) : Calls Tryz.prog 240 #[.string a, .string b] w fun e w' => e = .returned (.int .i64 (Lib.compareBytes a.data.toList b.data.toList)) ∧ w' = w := by
  go_enter Tryz.func240, Tryz.ntmps240
  go_wp2_with (go_at_call 260; refine (sCompareIn _ _ _).mono ?_; rintro e w' ⟨rfl, rfl⟩)
  go_ret
  exact ⟨rfl, rfl⟩
set_option maxRecDepth 100000 in
theorem tByPath (p : ByteArray) (v : Int) (q : ByteArray) (w : World) : Calls Tryz.prog 210 #[.agg #[.string p, .int .u32 v], .string q] w fun e w' => e = .returned (.int .i64 (Lib.compareBytes p.data.toList q.data.toList)) ∧ Below w.heap.size w w' := by
  have HC := Lib.hid (fun W => sCompare p q W)
  go_enter Tryz.func210, Tryz.ntmps210
  go_wp2_with (go_at_call 240; (with_reducible refine (HC.out _).mono ?_); rintro e w' ⟨rfl, rfl⟩)
  go_ret
  exact ⟨rfl, bl_alloc (Below.refl _ w) _⟩
end Go.Proofs.YtbhfbdcmamodcaaGreatDoor
namespace Go.Proofs.YtbhfbdcmamodcaaGreatDoor
open Go.RowKit
def EnAt (w : World) (a : Option Addr) (l : List (ByteArray × Int)) : Prop :=
  ∀ i (h : i < l.length), ∃ b off, a = some ⟨b, off, none⟩ ∧ b < w.heap.size ∧ w.cell? ⟨b, off + i * 2, none⟩ = some (.string l[i].1) ∧ w.cell? ⟨b, off + i * 2 + 1, none⟩ = some (.int .u32 l[i].2)
theorem EnAt.below {w w' : World} {a : Option Addr} {l : List (ByteArray × Int)} (h : EnAt w a l) (hb : Below w.heap.size w w') : EnAt w' a l := fun i hi => by
  obtain ⟨b, off, h1, h0, h2, h3⟩ := h i hi
  exact ⟨b, off, h1, Nat.lt_of_lt_of_le h0 hb.size, bl_cell hb h2, bl_cell hb h3⟩
end Go.Proofs.YtbhfbdcmamodcaaGreatDoor
