/- Plain law of layer 7: the bytes of a frame. -/
import Derived.Test.YtlnekfdamdfelaaPackMath
import Derived.Test.YtlnekfdamdfelaaSumMath
set_option linter.unusedVariables false
set_option linter.unusedSimpArgs false
namespace Go.Proofs.Ytlnekfdamdfelaa.FrMath
open PackMath SumMath

/-- A frame's bytes ahead of its sum. -/
def headF (K : Nat) (body : ByteArray) : List UInt8 := be K 1 ++ be body.size 4 ++ body.data.toList
def encF (K : Nat) (body : ByteArray) : List UInt8 := headF K body ++ be (crc (headF K body)) 4
theorem headF_len (K : Nat) (body : ByteArray) : (headF K body).length = body.size + 5 := by
  unfold headF
  rw [List.length_append, List.length_append, be_length, be_length]
  have : body.data.toList.length = body.size := by simp
  omega
theorem encF_len (K : Nat) (body : ByteArray) : (encF K body).length = body.size + 9 := by
  unfold encF
  rw [List.length_append, be_length, headF_len]
/-- What is wrong with a frame. -/
def frE (k : Int) (body : ByteArray) : Nat := if k < 1 ∨ 255 < k then 1 else if 1048576 < body.size then 5 else 0
def frS (k : Int) (body : ByteArray) : ByteArray := if frE k body = 0 then ⟨(encF k.toNat body).toArray⟩ else ⟨#[]⟩
theorem fr_kind {k : Int} {body : ByteArray} (h : k < 1 ∨ 255 < k) : frE k body = 1 ∧ frS k body = ⟨#[]⟩ := by
  have e : frE k body = 1 := by unfold frE; rw [if_pos h]
  exact ⟨e, by unfold frS; rw [if_neg (by rw [e]; decide)]⟩
theorem fr_long {k : Int} {body : ByteArray} (h : ¬ (k < 1 ∨ 255 < k)) (h2 : 1048576 < body.size) : frE k body = 5 ∧ frS k body = ⟨#[]⟩ := by
  have e : frE k body = 5 := by unfold frE; rw [if_neg h, if_pos h2]
  exact ⟨e, by unfold frS; rw [if_neg (by rw [e]; decide)]⟩
theorem fr_fine {k : Int} {body : ByteArray} (h : ¬ (k < 1 ∨ 255 < k)) (h2 : ¬ 1048576 < body.size) : frE k body = 0 ∧ frS k body = ⟨(encF k.toNat body).toArray⟩ := by
  have e : frE k body = 0 := by unfold frE; rw [if_neg h, if_neg h2]
  exact ⟨e, by unfold frS; rw [if_pos e]⟩
end Go.Proofs.Ytlnekfdamdfelaa.FrMath
