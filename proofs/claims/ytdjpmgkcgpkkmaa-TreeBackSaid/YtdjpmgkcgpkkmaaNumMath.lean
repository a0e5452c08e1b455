/- Plain law: numbers of some bytes, there and back. -/
import Derived.Test.YtdjpmgkcgpkkmaaRdMath3
set_option linter.unusedVariables false
set_option linter.unusedSimpArgs false
namespace Go.Proofs.Ytdjpmgkcgpkkmaa.PackMath

theorem fold_num (l : List UInt8) : ∀ v, l.foldl (fun v b => v * 256 + b.toNat) v = v * 256 ^ l.length + num l := by
  induction l with
  | nil => intro v; simp [num]
  | cons b r ih =>
    intro v
    show r.foldl (fun v b => v * 256 + b.toNat) (v * 256 + b.toNat) = v * 256 ^ (r.length + 1) + r.foldl (fun v b => v * 256 + b.toNat) (0 * 256 + b.toNat)
    rw [ih, ih (0 * 256 + b.toNat), Nat.pow_succ, Nat.add_mul, Nat.zero_mul, Nat.zero_add, Nat.mul_assoc v, Nat.mul_comm 256, Nat.add_assoc]
theorem num_cons (b : UInt8) (l : List UInt8) : num (b :: l) = b.toNat * 256 ^ l.length + num l := by
  rw [num, List.foldl_cons, fold_num, Nat.zero_mul, Nat.zero_add]
theorem num_be_mod (x n : Nat) : num (be x n) = x % 256 ^ n := by
  induction n with
  | zero => simp [be, num, Nat.mod_one]
  | succ n ih => rw [be, num_cons, byteAt_toNat, be_length, ih, Nat.mod_pow_succ, Nat.mul_comm, Nat.add_comm]
theorem num_be (x n : Nat) (h : x < 256 ^ n) : num (be x n) = x := by rw [num_be_mod, Nat.mod_eq_of_lt h]
theorem be_num (l : List UInt8) : be (num l) l.length = l := by
  induction l with
  | nil => rfl
  | cons c r ih =>
    have hp : 0 < 256 ^ r.length := Nat.pow_pos (by decide)
    have hlt := num_lt r
    have hc := c.toNat_lt
    have h1 : num (c :: r) / 256 ^ r.length = c.toNat := by
      rw [num_cons, Nat.mul_comm, Nat.mul_add_div hp, Nat.div_eq_of_lt hlt, Nat.add_zero]
    have h2 : num (c :: r) % 256 ^ r.length = num r := by
      rw [num_cons, Nat.mul_comm, Nat.mul_add_mod, Nat.mod_eq_of_lt hlt]
    rw [List.length_cons, be]
    have hb : byteAt (num (c :: r)) r.length = c := by
      unfold byteAt
      rw [h1, Nat.mod_eq_of_lt hc]
      simp
    rw [hb, ← be_mod _ r.length r.length (Nat.le_refl _), h2, ih]

theorem size_list (s : ByteArray) : s.data.toList.length = s.size := by simp
theorem drop_pre {l pre post : List UInt8} {k : Nat} (h : l = pre ++ post) (hk : pre.length = k) : l.drop k = post := by subst h; subst hk; simp

/-- A number that stands behind some bytes. -/
theorem numR_at {s : ByteArray} {pre post : List UInt8} {x n k : Nat} (h : s.data.toList = pre ++ (be x n ++ post)) (hk : pre.length = k) (hx : x < 256 ^ n) : numR s k 0 n = ((x, 0), (k + n, 0)) := by
  have hl := congrArg List.length h
  rw [size_list, List.length_append, List.length_append, be_length] at hl
  rw [numR_ok (by omega), drop_pre h hk]
  have ht : (be x n ++ post).take n = be x n := by
    have := be_length x n
    rw [List.take_append_of_le_length (by omega), List.take_of_length_le (by omega)]
  rw [ht, num_be x n hx]
/-- What a reading without an error has read. -/
theorem numR_inv {s : ByteArray} {a e n x f b : Nat} (h : numR s a e n = ((x, f), (b, 0))) : e = 0 ∧ f = 0 ∧ b = a + n ∧ n ≤ s.size - a ∧ (s.data.toList.drop a).take n = be x n := by
  by_cases he : e = 0
  · subst he
    by_cases hn : s.size - a < n
    · rw [numR_short hn] at h
      simp at h
    · rw [numR_ok (by omega)] at h
      simp only [Prod.mk.injEq] at h
      obtain ⟨⟨rfl, rfl⟩, rfl, _⟩ := h
      refine ⟨rfl, rfl, rfl, by omega, ?_⟩
      have hl : ((s.data.toList.drop a).take n).length = n := by rw [List.length_take, List.length_drop, size_list]; omega
      conv => rhs; rw [← hl]
      rw [hl]
      have := be_num ((s.data.toList.drop a).take n)
      rw [hl] at this
      exact this.symm
  · rw [numR_err he] at h
    simp at h
    exact absurd h.2.2 he

end Go.Proofs.Ytdjpmgkcgpkkmaa.PackMath
