/- Plain law of layer 1: turns of many bytes by doubling: a table of the images of the 32 bits. -/
import Derived.Test.YtilalngihpobhaaSumMath
namespace Go.Proofs.Ytilalngihpobhaa.SumMath

/-- What a table of the images of the lowest n bits makes of a number. -/
def thru (f : Nat → Nat) (c : Nat) : Nat → Nat
  | 0 => 0
  | n + 1 => if c / 2 ^ n % 2 = 1 then thru f c n ^^^ f n else thru f c n

theorem thru_lt {f : Nat → Nat} (c : Nat) : ∀ n, (∀ i, i < n → f i < 4294967296) → thru f c n < 4294967296
  | 0, _ => by simp [thru]
  | n + 1, h => by
    have ih := thru_lt (f := f) c n (fun i hi => h i (by omega))
    unfold thru
    split
    · exact Nat.xor_lt_two_pow (n := 32) ih (h n (by omega))
    · exact ih

theorem low_bits (c n : Nat) : c % 2 ^ (n + 1) = if c / 2 ^ n % 2 = 1 then c % 2 ^ n ^^^ 2 ^ n else c % 2 ^ n := by
  apply Nat.eq_of_testBit_eq
  intro i
  have hb : c.testBit n = decide (c / 2 ^ n % 2 = 1) := by rw [Nat.testBit_eq_decide_div_mod_eq]
  by_cases h : c / 2 ^ n % 2 = 1
  · rw [if_pos h, Nat.testBit_xor, Nat.testBit_mod_two_pow, Nat.testBit_mod_two_pow, Nat.testBit_two_pow]
    rw [decide_eq_true h] at hb
    by_cases h1 : i < n
    · have : i < n + 1 := by omega
      have h2 : n ≠ i := by omega
      simp [h1, this, h2]
    · by_cases h3 : i = n
      · subst h3; simp [hb]
      · have h4 : ¬ i < n + 1 := by omega
        have h5 : n ≠ i := by omega
        simp [h1, h4, h5]
  · rw [if_neg h, Nat.testBit_mod_two_pow, Nat.testBit_mod_two_pow]
    rw [decide_eq_false h] at hb
    by_cases h1 : i < n
    · have : i < n + 1 := by omega
      simp [h1, this]
    · by_cases h3 : i = n
      · subst h3; simp [hb]
      · have h4 : ¬ i < n + 1 := by omega
        simp [h1, h4]

/-- A table of a linear thing's images does what the thing does. -/
theorem thru_turns (k c : Nat) : ∀ n, thru (fun i => turns k (2 ^ i)) c n = turns k (c % 2 ^ n)
  | 0 => by
    show 0 = turns k (c % 1)
    rw [Nat.mod_one, turns_zero]
  | n + 1 => by
    rw [low_bits]
    unfold thru
    rw [thru_turns k c n]
    split
    · rw [turns_xor]
    · rfl

theorem thru_all (k c : Nat) (hc : c < 4294967296) : thru (fun i => turns k (2 ^ i)) c 32 = turns k c := by
  rw [thru_turns, Nat.mod_eq_of_lt (by simpa using hc)]

theorem thru_congr {f g : Nat → Nat} (c : Nat) : ∀ n, (∀ i, i < n → f i = g i) → thru f c n = thru g c n
  | 0, _ => rfl
  | n + 1, h => by
    unfold thru
    rw [thru_congr c n (fun i hi => h i (by omega)), h n (by omega)]

theorem pow_lt (i : Nat) (h : i < 32) : 2 ^ i < 4294967296 := by
  have : (2 : Nat) ^ i < 2 ^ 32 := Nat.pow_lt_pow_right (by decide) h
  simpa using this

theorem turns_twice (k c : Nat) : turns k (turns k c) = turns (k + k) c := (turns_add k k c).symm
end Go.Proofs.Ytilalngihpobhaa.SumMath
