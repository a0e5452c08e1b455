/- Walks of layer 8: writing over an answer and behind it. -/
import Derived.Test.YtplegohebfajlaaTrW6
set_option linter.unusedVariables false
set_option linter.unusedSimpArgs false
namespace Go.Proofs.Ytplegohebfajlaa
open Go.RowKit TrMath

end Go.Proofs.Ytplegohebfajlaa
