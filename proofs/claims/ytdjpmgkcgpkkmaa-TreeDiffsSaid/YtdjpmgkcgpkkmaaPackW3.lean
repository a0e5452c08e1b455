/- Walks of layer 2: the writer's short numbers, raw bytes and texts. -/
import Derived.Test.YtdjpmgkcgpkkmaaPackW2
set_option linter.unusedVariables false
set_option linter.unusedSimpArgs false
namespace Go.Proofs.Ytdjpmgkcgpkkmaa
open Go.RowKit PackMath

theorem or128 (m : Nat) : bits BinOp.or IntKind.u8 ((m : Int) % 256) 128 = (((UInt8.ofNat (m % 128 + 128)).toNat : Nat) : Int) := by
  have e : ((m : Int) % 256) = ((m % 256 : Nat) : Int) := by omega
  have h := u8_or_nat (m % 256) 128 (by omega) (by decide)
  rw [e]
  refine h.trans ?_
  have hall : ∀ x : Fin 256, x.val ||| 128 = x.val % 128 + 128 := by decide +kernel
  have h2 := hall ⟨m % 256, by omega⟩
  simp only at h2
  rw [h2, UInt8.toNat_ofNat']
  omega
theorem last_byte (m : Nat) (h : m < 128) : (m : Int) % 256 = (((UInt8.ofNat m).toNat : Nat) : Int) := by
  rw [UInt8.toNat_ofNat']
  omega

theorem alloc_drew {w w1 : World} {o : Obj} {r : Option Nat} (hg : (w.alloc o).grownBy w1 r) : (w.drew.alloc o).grownBy w1 r := ⟨hg.os, hg.tape, hg.output, hg.size, hg.block⟩

end Go.Proofs.Ytdjpmgkcgpkkmaa
