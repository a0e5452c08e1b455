/- Plain law of layer 7: scanning a text frame by frame. -/
import Derived.Test.YtlnekfdamdfelaaFrMath3
set_option linter.unusedVariables false
set_option linter.unusedSimpArgs false
namespace Go.Proofs.Ytlnekfdamdfelaa.FrMath
open PackMath SumMath

/-- The frames from a place on, the place behind them, the error. -/
def scanGo (s : ByteArray) : Nat → Nat → List (Int × ByteArray) × (Nat × Nat)
  | 0, a => ([], (a, 0))
  | fuel + 1, a =>
    if a < s.size then
      if (decP (s.extract a s.size)).1 ≠ 0 then ([], (a, (decP (s.extract a s.size)).1))
      else ((((decP (s.extract a s.size)).2.1 : Nat), (decP (s.extract a s.size)).2.2.1) :: (scanGo s fuel (a + (decP (s.extract a s.size)).2.2.2)).1, (scanGo s fuel (a + (decP (s.extract a s.size)).2.2.2)).2)
    else ([], (a, 0))
def scanR (s : ByteArray) : List (Int × ByteArray) × (Nat × Nat) := scanGo s s.size 0

section
variable {s b : ByteArray} {fuel a E k n : Nat}
theorem sg_end (h : s.size ≤ a) : scanGo s fuel a = ([], (a, 0)) := by
  cases fuel with
  | zero => rfl
  | succ f => rw [scanGo, if_neg (by omega)]
theorem sg_err (h : a < s.size) (hf : s.size ≤ a + fuel) (hD : decP (s.extract a s.size) = (E, (k, (b, n)))) (hE : E ≠ 0) : scanGo s fuel a = ([], (a, E)) := by
  cases fuel with
  | zero => omega
  | succ f => rw [scanGo, if_pos h, hD, if_pos hE]
theorem sg_ok (h : a < s.size) (hf : s.size ≤ a + fuel) (hD : decP (s.extract a s.size) = (0, (k, (b, n)))) :
    scanGo s fuel a = (((k : Int), b) :: (scanGo s (fuel - 1) (a + n)).1, (scanGo s (fuel - 1) (a + n)).2) := by
  cases fuel with
  | zero => omega
  | succ f => rw [scanGo, if_pos h, hD, if_neg (by simp)]; rfl
theorem dec_size (hD : decP (s.extract a s.size) = (0, (k, (b, n)))) (ha : a ≤ s.size) : n = b.size + 9 ∧ a + n ≤ s.size := by
  obtain ⟨_, _, _, h4, h5⟩ := dec_told hD
  have hl := congrArg List.length h5
  rw [encF_len, List.length_take, size_list] at hl
  rw [ByteArray.size_extract] at h4 hl
  omega
end
end Go.Proofs.Ytlnekfdamdfelaa.FrMath
