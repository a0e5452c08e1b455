/- Walks of layer 2: the short numbers of the document's reader. -/
import Derived.Test.YtdjpmgkcgpkkmaaRdW5
set_option linter.unusedVariables false
set_option linter.unusedSimpArgs false
namespace Go.Proofs.Ytdjpmgkcgpkkmaa
open Go.RowKit PackMath

theorem short_val2 (V n k : Nat) (hk : k ≤ 9) (h9 : k = 9 → n % 128 ≤ 1) (hV : V < 2 ^ (7 * k)) :
    bits .or .u64 (V : Int) (IntKind.u64.wrap (((n : Int) % 128) * 2 ^ (7 * k))) = ((V + n % 128 * 2 ^ (7 * k) : Nat) : Int) := by
  have h := short_or V n k hk h9 hV
  rw [show ((n % 128 : Nat) : Int) = (n : Int) % 128 from by omega] at h
  exact h

theorem Kept.drewN (w : World) (p n : Nat) : Kept w (w.drewN n) p := ⟨rfl, rfl, rfl, Nat.le_refl _, fun _ _ _ => rfl⟩

end Go.Proofs.Ytdjpmgkcgpkkmaa
