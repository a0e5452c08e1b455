/- Plain law of layer 2: numbers as bytes, no program in sight. -/
set_option linter.unusedVariables false
set_option linter.unusedSimpArgs false
namespace Go.Proofs.Ytdjpmgkcgpkkmaa.PackMath

/-- The byte of a number at a place. -/
def byteAt (x k : Nat) : UInt8 := UInt8.ofNat (x / 256 ^ k % 256)
/-- The lowest n bytes of a number, the greatest first. -/
def be (x : Nat) : Nat → List UInt8
  | 0 => []
  | n + 1 => byteAt x n :: be x n

theorem be_length (x n : Nat) : (be x n).length = n := by
  induction n with
  | zero => rfl
  | succ n ih => simp [be, ih]

theorem byteAt_toNat (x k : Nat) : (byteAt x k).toNat = x / 256 ^ k % 256 := by
  unfold byteAt
  rw [UInt8.toNat_ofNat']
  omega

theorem be_mod (x n k : Nat) (h : n ≤ k) : be (x % 256 ^ k) n = be x n := by
  induction n with
  | zero => rfl
  | succ n ih =>
    have e : byteAt (x % 256 ^ k) n = byteAt x n := by
      unfold byteAt
      congr 1
      have h1 : 256 ^ k = 256 ^ n * 256 ^ (k - n) := by rw [← Nat.pow_add]; congr 1; omega
      rw [h1, Nat.mod_mul_right_div_self]
      have h2 : k - n = (k - n - 1) + 1 := by omega
      rw [h2, Nat.pow_succ]
      exact Nat.mod_mul_left_mod _ _ _
    simp only [be, e, ih (by omega)]

/-- A short number's bytes. -/
def short (x : Nat) : List UInt8 := if x < 128 then [UInt8.ofNat x] else UInt8.ofNat (x % 128 + 128) :: short (x / 128)
termination_by x
decreasing_by omega

theorem short_small {x : Nat} (h : x < 128) : short x = [UInt8.ofNat x] := by rw [short, if_pos h]
theorem short_great {x : Nat} (h : ¬ x < 128) : short x = UInt8.ofNat (x % 128 + 128) :: short (x / 128) := by rw [short, if_neg h]
theorem short_length {x : Nat} : ∀ {k : Nat}, x < 128 ^ (k + 1) → (short x).length ≤ k + 1
  | 0, h => by rw [short_small (by simpa using h)]; simp
  | k + 1, h => by
    by_cases hx : x < 128
    · rw [short_small hx]; simp
    · rw [short_great hx, List.length_cons]
      have := short_length (x := x / 128) (k := k) (by
        rw [Nat.div_lt_iff_lt_mul (by decide)]
        rwa [Nat.pow_succ] at h)
      omega
theorem short_ten {x : Nat} (h : x < 18446744073709551616) : (short x).length ≤ 10 := short_length (k := 9) (Nat.lt_of_lt_of_le h (by decide))
theorem short_pos (x : Nat) : 1 ≤ (short x).length := by
  by_cases hx : x < 128
  · rw [short_small hx]; simp
  · rw [short_great hx]; simp

end Go.Proofs.Ytdjpmgkcgpkkmaa.PackMath
