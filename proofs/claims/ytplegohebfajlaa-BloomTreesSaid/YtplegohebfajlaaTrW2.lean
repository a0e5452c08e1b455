/- Walks of layer 8: entries as they lie; is a path too long? -/
import Derived.Test.YtplegohebfajlaaTrW1
set_option linter.unusedVariables false
set_option linter.unusedSimpArgs false
namespace Go.Proofs.Ytplegohebfajlaa
open Go.RowKit

/-- Entries that lie in the world. -/
def EnAt (w : World) (a : Option Addr) (l : List (ByteArray × Int)) : Prop :=
  ∀ i (h : i < l.length), ∃ b off, a = some ⟨b, off, none⟩ ∧ b < w.heap.size ∧ w.cell? ⟨b, off + i * 2, none⟩ = some (.string l[i].1) ∧ w.cell? ⟨b, off + i * 2 + 1, none⟩ = some (.int .u32 l[i].2)
theorem EnAt.below {w w' : World} {a : Option Addr} {l : List (ByteArray × Int)} (h : EnAt w a l) (hb : Below w.heap.size w w') : EnAt w' a l := fun i hi => by
  obtain ⟨b, off, h1, h0, h2, h3⟩ := h i hi
  exact ⟨b, off, h1, Nat.lt_of_lt_of_le h0 hb.size, bl_cell hb h2, bl_cell hb h3⟩
/-- Where the first too long path stands. -/
def longAt (l : List (ByteArray × Int)) : Bool := l.any fun e => decide (255 < e.1.size)

end Go.Proofs.Ytplegohebfajlaa
