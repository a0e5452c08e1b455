/- Walks of layer 8: comparing paths. -/
import Derived.Test.YtplegohebfajlaaRows
import Derived.Test.YtplegohebfajlaaPackMath
import Derived.WalkKit
import Derived.WalkSpells
import Derived.WalkLawsBesides
import Derived.Lib.Bytealg
import Derived.Deep.RegionHeld3
import Derived.Test.YtplegohebfajlaaBits
set_option linter.unusedVariables false
set_option linter.unusedSimpArgs false
namespace Go.Proofs.Ytplegohebfajlaa
open Go.RowKit

theorem sCompareIn (a b : ByteArray) (w : World) : Calls Try.prog 31 #[.string a, .string b] w fun e w' => e = .returned (.int .i64 (Lib.compareBytes a.data.toList b.data.toList)) ∧ w' = w := by
  go_enter Try.func31, Try.ntmps31
  go_wp2
  rw [run_callFunc_extern Try.func32 (by kernel_rfl) (by kernel_rfl) (by kernel_rfl) (e := Extern.BytealgCompare.compare) (by kernel_rfl), Lib.run_compareString]
  simp only [Result.andThen]
  rw [Oper.upon_value]
  go_wp2
  go_ret
  exact ⟨rfl, rfl⟩
theorem sCompare (a b : ByteArray) (w : World) : Calls Try.prog 30 #[.string a, .string b] w fun e w' => e = .returned (.int .i64 (Lib.compareBytes a.data.toList b.data.toList)) ∧ w' = w := by
  go_enter Try.func30, Try.ntmps30
  go_wp2_with (go_at_call 31; refine (sCompareIn _ _ _).mono ?_; rintro e w' ⟨rfl, rfl⟩)
  go_ret
  exact ⟨rfl, rfl⟩
theorem tByPath (p : ByteArray) (v : Int) (q : ByteArray) (w : World) : Calls Try.prog 29 #[.agg #[.string p, .int .u32 v], .string q] w fun e w' => e = .returned (.int .i64 (Lib.compareBytes p.data.toList q.data.toList)) ∧ Below w.heap.size w w' := by
  have HC := Lib.hid (fun W => sCompare p q W)
  go_enter Try.func29, Try.ntmps29
  go_wp2_with (go_at_call 30; (with_reducible refine (HC.out _).mono ?_); rintro e w' ⟨rfl, rfl⟩)
  go_ret
  exact ⟨rfl, bl_alloc (Below.refl _ w) _⟩
end Go.Proofs.Ytplegohebfajlaa
