/- What a law's argument reads as: a slice of steps. -/
import Derived.Test.YtbhfbdcmamodcaaGreatDoorL19
import Derived.Test.YtbhfbdcmamodcaaGreatDoorL31
import Derived.Test.YtbhfbdcmamodcaaGreatDoorL04
import Derived.Deep.Slices
import Derived.Deep.Fields
import Derived.ChangeSame
set_option linter.unusedVariables false
set_option linter.unusedSimpArgs false
namespace Go.Proofs.YtbhfbdcmamodcaaGreatDoor
open Go.RowKit Go.ChangeShapes Go.WideShapes Go.Deep
structure StepP where
  tv : Value
  pv : Value
  tree : List (ByteArray × Int)
  pars : List Int
  idx : Int
  nm : Int
  at_ : Int
structure StepOk (w : World) (y : StepP) : Prop where
  tree : ∃ a c, y.tv = .slice a y.tree.length c ∧ y.tree.length ≤ c ∧ c ≤ maxLen ∧ EnAt w a y.tree ∧ Words y.tree
  pars : ∃ a c, y.pv = .slice a y.pars.length c ∧ y.pars.length ≤ c ∧ c ≤ maxLen ∧ IntsAt w .u8 a y.pars
  idx : 0 ≤ y.idx ∧ y.idx < 256
section
variable {H : Type} {enc : TypeId × Value → H} {P : Program} {w : World}
theorem StepOk.below {w' : World} {y : StepP} (h : StepOk w y) (hb : Below w.heap.size w w') : StepOk w' y := by
  obtain ⟨⟨a, c, h1, h2, h3, h4, h5⟩, ⟨a', c', k1, k2, k3, k4⟩, h6⟩ := h
  exact ⟨⟨a, c, h1, h2, h3, h4.below hb, h5⟩, ⟨a', c', k1, k2, k3, k4.below hb (Nat.le_refl _)⟩, h6⟩
end
end Go.Proofs.YtbhfbdcmamodcaaGreatDoor
