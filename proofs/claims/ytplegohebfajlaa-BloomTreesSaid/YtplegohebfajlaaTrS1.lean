/- Walks of layer 8: sorting a block of entries by insertion, in place. -/
import Derived.Test.YtplegohebfajlaaTrW7
import Derived.Shelf.SlSortCmp.InsertionK
set_option linter.unusedVariables false
set_option linter.unusedSimpArgs false
namespace Go.Proofs.Ytplegohebfajlaa
open Go.RowKit TrMath Go.Sort Go.Shelf

theorem tByPathG (p : ByteArray) (v : Int) (q : ByteArray) (w : World) : Calls Try.prog 29 #[.agg #[.string p, .int .u32 v], .string q] w fun e w' => e = .returned (.int .i64 (cmpP p q)) ∧ w' = w.alloc (.cells #[.string p, .int .u32 v] 47) := by
  have HC := Lib.hid (fun W => sCompare p q W)
  go_enter Try.func29, Try.ntmps29
  go_wp2_with (go_at_call 30; (with_reducible refine (HC.out _).mono ?_); rintro e w' ⟨rfl, rfl⟩)
  go_ret
  exact ⟨rfl, rfl⟩
/-- An entry's two cells. -/
def encE (x : ByteArray × Int) : List Value := [.string x.1, .int .u32 x.2]
theorem encE_len (x : ByteArray × Int) : (encE x).length = 2 := rfl
theorem encE_one : ∀ (x : ByteArray × Int), ∀ v ∈ encE x, v.oneCell' = true := fun x v hv => by simp [encE] at hv; rcases hv with rfl | rfl <;> rfl
def cfE (x y : ByteArray × Int) : Int := cmpP x.1 y.1
/-- A world in which a block of entries stands sorted so far, draws and new blocks aside. -/
def SW (w : World) (g : Nat) (d : Array (ByteArray × Int)) (wr : World) : Prop := ∃ n os, wr = sortWorldK encE 2 w g 0 n d os
end Go.Proofs.Ytplegohebfajlaa
