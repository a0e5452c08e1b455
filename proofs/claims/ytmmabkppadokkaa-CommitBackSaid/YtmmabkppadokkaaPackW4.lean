/- Walks of layer 2: the writer's raw bytes and texts, the nil writer, the document's first example. -/
import Derived.Test.YtmmabkppadokkaaPackW3
set_option linter.unusedVariables false
set_option linter.unusedSimpArgs false
namespace Go.Proofs.Ytmmabkppadokkaa
open Go.RowKit PackMath

theorem slice_of_own {B e k n : Nat} {w : World} {v : Value} {xs : List Value} (h : w.ownsRow B e k v n xs) : ∃ a c, v = .slice a n c := by
  rcases h.2 with ⟨rfl, h0⟩ | ⟨g, cap, cur, rfl, _⟩
  · exact ⟨none, 0, by rw [h0]⟩
  · exact ⟨_, cap, rfl⟩

/-- A text as it is laid. -/
def textOf (s : ByteArray) : List UInt8 := short s.size ++ s.data.toList

theorem short300 : short 300 = [172, 2] := by
  rw [short_great (by decide), short_small (by decide)]; rfl
theorem lays_len : ([] ++ be 258 2 ++ short 300).length = 4 := by rw [short300]; rfl
theorem lays_lit : [] ++ be 258 2 ++ short 300 ++ textOf ⟨#[97, 98]⟩ = [1, 2, 172, 2, 2, 97, 98] := by
  unfold textOf
  rw [short300, show (ByteArray.mk #[97, 98]).size = 2 from rfl, short_small (by decide)]
  decide
end Go.Proofs.Ytmmabkppadokkaa
