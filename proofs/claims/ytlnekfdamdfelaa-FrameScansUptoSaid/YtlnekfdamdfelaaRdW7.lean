/- Walks of layer 2: the readers' texts and ends. -/
import Derived.Test.YtlnekfdamdfelaaRdW6
import Derived.Test.YtlnekfdamdfelaaRdMath3
set_option linter.unusedVariables false
set_option linter.unusedSimpArgs false
namespace Go.Proofs.Ytlnekfdamdfelaa
open Go.RowKit PackMath

section
variable (p : Nat) (s : ByteArray) (a e : Nat) (w : World)
end
end Go.Proofs.Ytlnekfdamdfelaa
