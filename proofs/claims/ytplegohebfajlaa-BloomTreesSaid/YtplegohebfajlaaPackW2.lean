/- Walks of layer 2: the writer, on. -/
import Derived.Test.YtplegohebfajlaaPackW1
import Derived.Test.YtplegohebfajlaaAppStr
import Derived.Laws.IdiomStrings
set_option linter.unusedVariables false
set_option linter.unusedSimpArgs false
namespace Go.Proofs.Ytplegohebfajlaa
open Go.RowKit PackMath

section
variable (B p : Nat) (k : Nat) (w : World) (v : Value) (bs : List UInt8)

end

/-- 'string(b)' of a row of bytes that the call owns. -/
theorem run_own_string (B : Nat) (w : World) (v : Value) (bs : List UInt8) (h : w.ownsRow B 5 1 v bs.length (bytesOf bs)) :
    (convert 51 9 v).run Try.prog w = .ok (.string ⟨bs.toArray⟩) w := by
  have hc := fun g (hg : v.ownBlock = some g) => h.cells hg
  rcases h.2 with ⟨rfl, h0⟩ | ⟨g, cap, cur, rfl, _⟩
  · have : bs = [] := List.eq_nil_of_length_eq_zero h0
    subst this
    rw [run_convert_bytes_string w _ _ 5 none 0 0 Try.underlying51 Try.underlying5 Try.underlying9]
    rfl
  · exact run_convert_bytes_back (P := Try.prog) w _ _ 5 ⟨g, 0, none⟩ cap bs Try.underlying51 Try.underlying5 Try.underlying9 (fun j hj => hc g rfl j _ (by simp [bytesOf, hj]))

end Go.Proofs.Ytplegohebfajlaa
