/- A region that draws its order, whose operations read and whose callees lay blocks of their own: walked once, in the order of the text. -/
import Derived.Test.YtbhfbdcmamodcaaGreatDoorL04
import Derived.Deep.QuietTactic
import Derived.BigQuiet
set_option linter.unusedVariables false
set_option linter.unusedSimpArgs false
namespace Go.Proofs.YtbhfbdcmamodcaaGreatDoor
open Go.RowKit
structure Past (w : World) where
  x : World
  b : Below w.heap.size w x
instance (w : World) : Inhabited (Past w) := ⟨⟨w, Below.refl _ w⟩⟩
theorem wp_region_past {P : Program} {id : Nat} {Q : Exit → Act → World → Prop} {a : Act} {w : World} {l : List Oper} (hm : P.follows .mixedOrders = true) (hB : Region.lexB .any l.toArray = true)
    (h : wpQuiet P l.toArray (fun w' => ∃ p : Past w, w' = p.x) (fun a' => ∀ w', (∃ p : Past w, w' = p.x) → Q .normal a' w') l a) : (Code.region id l.toArray true).wp P Q a w :=
  wp_region_quiet (C := fun w' => ∃ p : Past w, w' = p.x) hm hB ⟨⟨w.drew, bl_drew (Below.refl _ w)⟩, rfl⟩ (by simpa using h)
theorem Calls.past {P : Program} {f : FuncId} {args : Array Value} {w x : World} {v : Value} (hx : Below w.heap.size w x) (h : Calls P f args x fun e w' => e = .returned v ∧ Below x.heap.size x w') :
    Calls P f args x fun e w'' => e = .returned v ∧ ∃ p : Past w, w'' = p.x := h.mono fun _ w' ⟨he, hb⟩ => ⟨he, ⟨w', bl_trans hx hb⟩, rfl⟩
end Go.Proofs.YtbhfbdcmamodcaaGreatDoor
