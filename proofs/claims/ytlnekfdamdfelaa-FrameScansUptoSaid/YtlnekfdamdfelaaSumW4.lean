/- Walks of layer 1: the document's first example, and the laws SumIs and SumMore. -/
import Derived.Test.YtlnekfdamdfelaaSumW3
set_option linter.unusedVariables false
set_option linter.unusedSimpArgs false
namespace Go.Proofs.Ytlnekfdamdfelaa
open Go.RowKit SumMath

theorem sum_at (a : Option Addr) (n cap : Nat) (ss : List ByteArray) (hn : n = ss.length) (hl : n ≤ maxLen) (w : World) (hS : StrsAt w a ss) :
    Calls Try.prog 25 #[.slice a n cap] w fun e w' => e = .returned (.int .u32 (crc (flat ss))) ∧ Below w.heap.size w w' := by
  subst hn
  exact sum_any a cap ss hl w hS

def digits : ByteArray := ⟨#[49, 50, 51, 52, 53, 54, 55, 56, 57]⟩
theorem digits_crc : (((crc (flat [digits]) : Nat) : Int) == 3421780262) = true := by decide +kernel

theorem strs_new (w : World) (t : TypeId) (ss : List ByteArray) (hz : ∀ s ∈ ss, s.size ≤ maxLen) (cs : Array Value) (hc : cs = (ss.map Value.string).toArray) :
    StrsAt (w.alloc (.cells cs t)) (some ⟨w.heap.size, 0, none⟩) ss := fun i hi => by
  refine ⟨hz _ (List.getElem_mem hi), w.heap.size, 0, rfl, ?_⟩
  rw [Nat.zero_add, World.cell?_alloc_new, hc]
  simp [hi]

end Go.Proofs.Ytlnekfdamdfelaa
