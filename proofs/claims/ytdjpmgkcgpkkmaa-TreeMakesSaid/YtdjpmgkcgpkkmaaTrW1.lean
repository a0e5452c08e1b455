/- Walks of layer 8: comparing paths. -/
import Derived.Test.YtdjpmgkcgpkkmaaRows
import Derived.Test.YtdjpmgkcgpkkmaaPackMath
import Derived.WalkKit
import Derived.WalkSpells
import Derived.WalkLawsBesides
import Derived.Lib.Bytealg
import Derived.Deep.RegionHeld3
import Derived.Test.YtdjpmgkcgpkkmaaBits
set_option linter.unusedVariables false
set_option linter.unusedSimpArgs false
namespace Go.Proofs.Ytdjpmgkcgpkkmaa
open Go.RowKit

theorem sCompareIn (a b : ByteArray) (w : World) : Calls Try.prog 78 #[.string a, .string b] w fun e w' => e = .returned (.int .i64 (Lib.compareBytes a.data.toList b.data.toList)) ∧ w' = w := by
  go_enter Try.func78, Try.ntmps78
  go_wp2
  rw [run_callFunc_extern Try.func83 (by kernel_rfl) (by kernel_rfl) (by kernel_rfl) (e := Extern.BytealgCompare.compare) (by kernel_rfl), Lib.run_compareString]
  simp only [Result.andThen]
  rw [Oper.upon_value]
  go_wp2
  go_ret
  exact ⟨rfl, rfl⟩
theorem sCompare (a b : ByteArray) (w : World) : Calls Try.prog 61 #[.string a, .string b] w fun e w' => e = .returned (.int .i64 (Lib.compareBytes a.data.toList b.data.toList)) ∧ w' = w := by
  go_enter Try.func61, Try.ntmps61
  go_wp2_with (go_at_call 78; refine (sCompareIn _ _ _).mono ?_; rintro e w' ⟨rfl, rfl⟩)
  go_ret
  exact ⟨rfl, rfl⟩
theorem tByPath (p : ByteArray) (v : Int) (q : ByteArray) (w : World) : Calls Try.prog 39 #[.agg #[.string p, .int .u32 v], .string q] w fun e w' => e = .returned (.int .i64 (Lib.compareBytes p.data.toList q.data.toList)) ∧ Below w.heap.size w w' := by
  have HC := Lib.hid (fun W => sCompare p q W)
  go_enter Try.func39, Try.ntmps39
  go_wp2_with (go_at_call 61; (with_reducible refine (HC.out _).mono ?_); rintro e w' ⟨rfl, rfl⟩)
  go_ret
  exact ⟨rfl, bl_alloc (Below.refl _ w) _⟩
theorem tLong (p : ByteArray) (v : Int) (w : World) : Calls Try.prog 35 #[.agg #[.string p, .int .u32 v]] w fun e w' => e = .returned (.bool (decide (255 < (p.size : Int)))) ∧ Below w.heap.size w w' := by
  go_enter Try.func35, Try.ntmps35
  go_wp2
  go_ret
  exact ⟨rfl, bl_alloc (Below.refl _ w) _⟩
theorem tComp (p : ByteArray) (v : Int) (q : ByteArray) (u : Int) (w : World) : Calls Try.prog 38 #[.agg #[.string p, .int .u32 v], .agg #[.string q, .int .u32 u]] w fun e w' => e = .returned (.int .i64 (Lib.compareBytes p.data.toList q.data.toList)) ∧ Below w.heap.size w w' := by
  have HC := Lib.hid (fun W => tByPath p v q W)
  go_enter Try.func38, Try.ntmps38
  go_wp2_with (go_at_call 39; (with_reducible refine (HC.out _).mono ?_); rintro e w' ⟨rfl, hb⟩; have HB := Lib.hid (bl_trans (bl_alloc (bl_alloc (Below.refl _ w) (.cells #[.string p, .int .u32 v] 39)) (.cells #[.string q, .int .u32 u] 39)) hb); clear hb)
  go_ret
  exact ⟨rfl, HB.out⟩
end Go.Proofs.Ytdjpmgkcgpkkmaa
