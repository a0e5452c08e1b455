/- Walk of layer 2: the document's numbers of some bytes. -/
import Derived.Test.YtplegohebfajlaaPackW2
import Derived.Laws.OwnMore
import Derived.OwnWalk
set_option linter.unusedVariables false
set_option linter.unusedSimpArgs false
namespace Go.Proofs.Ytplegohebfajlaa
open Go.RowKit PackMath

theorem be_get (x n m : Nat) (h : m < n) : (be x n)[m]? = some (byteAt x (n - 1 - m)) := by
  induction n generalizing m with
  | zero => omega
  | succ n ih =>
    match m with
    | 0 => simp [be]
    | m + 1 =>
      simp only [be, List.getElem?_cons_succ]
      rw [ih m (by omega), show n - 1 - m = n + 1 - 1 - (m + 1) from by omega]
theorem be_take (x n m : Nat) (h : m < n) : (be x n).take (m + 1) = (be x n).take m ++ [byteAt x (n - 1 - m)] := by
  rw [List.take_add_one, be_get x n m h]; rfl
theorem row_set (x n m : Nat) (h : m < n) : (bytesOf ((be x n).take m) ++ List.replicate (n - m) (Value.int .u8 0)).set m (.int .u8 ((byteAt x (n - 1 - m)).toNat : Nat)) =
    bytesOf ((be x n).take (m + 1)) ++ List.replicate (n - (m + 1)) (Value.int .u8 0) := by
  have hl : (bytesOf ((be x n).take m)).length = m := by rw [bytesOf_length, List.length_take, be_length]; omega
  rw [List.set_append_right _ _ (by omega), hl, Nat.sub_self, be_take x n m h, bytesOf_append, show n - m = (n - (m + 1)) + 1 from by omega, List.replicate_succ, List.set_cons_zero, List.append_assoc]
  rfl
theorem row_get (x n m : Nat) (h : m < n) : (bytesOf ((be x n).take m) ++ List.replicate (n - m) (Value.int .u8 0))[m]? = some (.int .u8 0) := by
  have hl : (bytesOf ((be x n).take m)).length = m := by rw [bytesOf_length, List.length_take, be_length]; omega
  rw [List.getElem?_append_right (by omega), hl, Nat.sub_self, show n - m = (n - (m + 1)) + 1 from by omega, List.replicate_succ]
  rfl
theorem below_of_grown {w w' : World} {row : Option Nat} (h : w.grownBy w' row) (hr : ∀ g, row = some g → w.heap.size ≤ g) : Below w.heap.size w w' :=
  ⟨h.os, h.tape, h.output, h.size, fun k hk => h.block k hk (fun e => by have := hr k e.symm; omega)⟩

theorem byte_val2 (x m : Nat) : (((byteAt x m).toNat : Nat) : Int) = (x : Int) / 2 ^ (8 * m) % 256 := by
  rw [byteAt_toNat]
  have e : (2 : Int) ^ (8 * m) = ((256 ^ m : Nat) : Int) := by
    rw [Int.natCast_pow, Int.pow_mul]; rfl
  rw [e]
  omega

end Go.Proofs.Ytplegohebfajlaa
