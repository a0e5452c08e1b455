/- Plain law of layer 2: numbers of some bytes as a reader reads them. -/
import Derived.Test.YtdjpmgkcgpkkmaaRdMath
set_option linter.unusedVariables false
set_option linter.unusedSimpArgs false
namespace Go.Proofs.Ytdjpmgkcgpkkmaa.PackMath

theorem num_snoc (l : List UInt8) (b : UInt8) : num (l ++ [b]) = num l * 256 + b.toNat := by simp [num]
theorem fold_lt (l : List UInt8) : ∀ v, l.foldl (fun v b => v * 256 + b.toNat) v < (v + 1) * 256 ^ l.length := by
  induction l with
  | nil => intro v; simp
  | cons b l ih =>
    intro v
    rw [List.foldl_cons, List.length_cons, Nat.pow_succ]
    refine Nat.lt_of_lt_of_le (ih _) ?_
    rw [Nat.mul_comm (256 ^ l.length) 256, ← Nat.mul_assoc]
    have := b.toNat_lt
    exact Nat.mul_le_mul_right _ (by omega)
theorem num_lt (l : List UInt8) : num l < 256 ^ l.length := by
  have := fold_lt l 0
  rw [Nat.zero_add, Nat.one_mul] at this
  exact this
theorem take_byte (t : ByteArray) (k : Nat) (h : k < t.size) : t.data.toList.take (k + 1) = t.data.toList.take k ++ [t[k]] := by
  rw [List.take_succ_eq_append_getElem (by simpa using h)]; rfl
theorem num_take (t : ByteArray) (k : Nat) (h : k < t.size) : num (t.data.toList.take (k + 1)) = num (t.data.toList.take k) * 256 + t[k].toNat := by
  rw [take_byte t k h, num_snoc]
theorem num_take_lt (l : List UInt8) (k : Nat) (hk : k ≤ 7) : num (l.take k) < 72057594037927936 := by
  refine Nat.lt_of_lt_of_le (num_lt _) ?_
  refine Nat.le_trans (Nat.pow_le_pow_right (by decide) (show (l.take k).length ≤ 7 by rw [List.length_take]; omega)) (by decide)
theorem num_lt8 (l : List UInt8) (h : l.length ≤ 8) : num l < 18446744073709551616 :=
  Nat.lt_of_lt_of_le (num_lt _) (Nat.le_trans (Nat.pow_le_pow_right (by decide) h) (by decide))
theorem or256 (v b : Nat) (h : b < 256) : v * 256 ||| b = v * 256 + b := by
  have := Nat.shiftLeft_add_eq_or_of_lt (i := 8) (b := b) h v
  rw [Nat.shiftLeft_eq] at this
  exact this.symm
theorem extract_list (s : ByteArray) (a b : Nat) : (s.extract a b).data.toList = (s.data.toList.drop a).take (b - a) := by
  rw [ByteArray.data_extract, Array.toList_extract]

theorem numR_err {s : ByteArray} {a e n : Nat} (h : e ≠ 0) : numR s a e n = ((0, e), (a, e)) := by unfold numR; rw [if_pos h]
theorem numR_short {s : ByteArray} {a n : Nat} (h : s.size - a < n) : numR s a 0 n = ((0, 2), (a, 2)) := by unfold numR; rw [if_neg (by simp), if_pos h]
theorem numR_ok {s : ByteArray} {a n : Nat} (h : n ≤ s.size - a) : numR s a 0 n = ((num ((s.data.toList.drop a).take n), 0), (a + n, 0)) := by unfold numR; rw [if_neg (by simp), if_neg (by omega)]

/-- A number is read through the raw bytes. -/
theorem numR_raw {s t : ByteArray} {a e n f b g : Nat} (hs : a ≤ s.size) (h : rawR s a e n = ((t, f), (b, g))) : numR s a e n = ((num t.data.toList, f), (b, g)) ∧ t.size ≤ n := by
  by_cases he : e = 0
  · subst he
    by_cases hn : a + n ≤ s.size
    · rw [rawR_ok hn] at h
      simp only [Prod.mk.injEq] at h
      obtain ⟨⟨rfl, rfl⟩, rfl, rfl⟩ := h
      rw [numR_ok (by omega), extract_list, show a + n - a = n from by omega]
      refine ⟨rfl, ?_⟩
      rw [ByteArray.size_extract]
      omega
    · rw [rawR_short (by omega) (by omega)] at h
      simp only [Prod.mk.injEq] at h
      obtain ⟨⟨rfl, rfl⟩, rfl, rfl⟩ := h
      rw [numR_short (by omega)]
      exact ⟨rfl, Nat.zero_le _⟩
  · rw [rawR_err he] at h
    simp only [Prod.mk.injEq] at h
    obtain ⟨⟨rfl, rfl⟩, rfl, rfl⟩ := h
    rw [numR_err he]
    exact ⟨rfl, Nat.zero_le _⟩

theorem numR_lt (s : ByteArray) (a e n : Nat) : (numR s a e n).1.1 < 256 ^ n := by
  have hp : 0 < 256 ^ n := Nat.pow_pos (by decide)
  unfold numR
  split
  · exact hp
  · split
    · exact hp
    · refine Nat.lt_of_lt_of_le (num_lt _) (Nat.pow_le_pow_right (by decide) ?_)
      rw [List.length_take]
      omega
theorem shortGo_take (a : Nat) : ∀ (l : List UInt8) (i v : Nat), i ≤ 9 → shortGo a (l.take (10 - i)) i v = shortGo a l i v
  | [], i, v, _ => by simp
  | c :: r, i, v, h => by
    rw [show 10 - i = (9 - i) + 1 from by omega, List.take_succ_cons]
    unfold shortGo
    by_cases h1 : i = 9 ∧ 1 < c.toNat ∨ 0 < i ∧ c.toNat = 0
    · rw [if_pos h1, if_pos h1]
    · rw [if_neg h1, if_neg h1]
      by_cases h2 : c.toNat < 128
      · rw [if_pos h2, if_pos h2]
      · rw [if_neg h2, if_neg h2, show 9 - i = 10 - (i + 1) from by omega]
        exact shortGo_take a r (i + 1) _ (by omega)
theorem cut_ten (s : ByteArray) (a : Nat) : shortGo a ((s.data.toList.drop a).take (min (a + 10) s.size - a)) 0 0 = shortGo a (s.data.toList.drop a) 0 0 := by
  refine Eq.trans ?_ (shortGo_take a (s.data.toList.drop a) 0 0 (by decide))
  have hl : s.data.toList.length = s.size := by simp
  by_cases h : a + 10 ≤ s.size
  · rw [Nat.min_eq_left h, show a + 10 - a = 10 - 0 from by omega]
  · have h1 : (s.data.toList.drop a).length = s.size - a := by rw [List.length_drop, hl]
    rw [List.take_of_length_le (i := 10 - 0) (by omega), List.take_of_length_le (by omega)]
theorem go_bad {a : Nat} {c : UInt8} {r : List UInt8} {i v : Nat} (h : i = 9 ∧ 1 < c.toNat ∨ 0 < i ∧ c.toNat = 0) : shortGo a (c :: r) i v = ((0, 3), (a, 3)) := by
  unfold shortGo; rw [if_pos h]
theorem go_last {a : Nat} {c : UInt8} {r : List UInt8} {i v : Nat} (h : ¬ (i = 9 ∧ 1 < c.toNat ∨ 0 < i ∧ c.toNat = 0)) (h2 : c.toNat < 128) :
    shortGo a (c :: r) i v = ((v + c.toNat % 128 * 2 ^ (7 * i), 0), (a + i + 1, 0)) := by
  unfold shortGo; rw [if_neg h, if_pos h2]
theorem go_on {a : Nat} {c : UInt8} {r : List UInt8} {i v : Nat} (h : ¬ (i = 9 ∧ 1 < c.toNat ∨ 0 < i ∧ c.toNat = 0)) (h2 : ¬ c.toNat < 128) :
    shortGo a (c :: r) i v = shortGo a r (i + 1) (v + c.toNat % 128 * 2 ^ (7 * i)) := by
  conv => lhs; unfold shortGo
  rw [if_neg h, if_neg h2]
theorem orPow (v x k : Nat) (h : v < 2 ^ k) : v ||| x * 2 ^ k = v + x * 2 ^ k := by
  have := Nat.shiftLeft_add_eq_or_of_lt (i := k) (b := v) h x
  rw [Nat.shiftLeft_eq] at this
  rw [Nat.or_comm, ← this, Nat.add_comm]
end Go.Proofs.Ytdjpmgkcgpkkmaa.PackMath
