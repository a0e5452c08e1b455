/- Plain law of layer 2: a short number is read from its own bytes alone. -/
import Derived.Test.YtdjpmgkcgpkkmaaRdMath2
set_option linter.unusedVariables false
set_option linter.unusedSimpArgs false
namespace Go.Proofs.Ytdjpmgkcgpkkmaa.PackMath

theorem ofNat_toNat {x : Nat} (h : x < 256) : (UInt8.ofNat x).toNat = x := by rw [UInt8.toNat_ofNat']; omega
theorem pow_split (i : Nat) (h : i ≤ 8) : 2 ^ (64 - 7 * i) = 2 ^ (64 - 7 * (i + 1)) * 128 := by
  rw [show 64 - 7 * i = (64 - 7 * (i + 1)) + 7 from by omega, Nat.pow_add]

theorem go_short (a : Nat) (r : List UInt8) (x : Nat) : ∀ i V, i ≤ 9 → (0 < i → x ≠ 0) → x < 2 ^ (64 - 7 * i) →
    shortGo a (short x ++ r) i V = ((V + x * 2 ^ (7 * i), 0), (a + i + (short x).length, 0)) := by
  induction x using Nat.strongRecOn with
  | _ x ih =>
    intro i V hi h0 hx
    by_cases h : x < 128
    · rw [short_small h]
      have hc : (UInt8.ofNat x).toNat = x := ofNat_toNat (by omega)
      have hbad : ¬ (i = 9 ∧ 1 < (UInt8.ofNat x).toNat ∨ 0 < i ∧ (UInt8.ofNat x).toNat = 0) := by
        rw [hc]
        rintro (⟨rfl, h1⟩ | ⟨h1, h2⟩)
        · have : x < 2 := by simpa using hx
          omega
        · exact h0 h1 h2
      rw [List.singleton_append, go_last hbad (by rw [hc]; exact h), hc, Nat.mod_eq_of_lt h]
      rfl
    · rw [short_great h]
      have hc : (UInt8.ofNat (x % 128 + 128)).toNat = x % 128 + 128 := ofNat_toNat (by omega)
      have h9 : i ≤ 8 := by
        by_cases e : i = 9
        · subst e
          have : x < 2 := by simpa using hx
          omega
        · omega
      have hbad : ¬ (i = 9 ∧ 1 < (UInt8.ofNat (x % 128 + 128)).toNat ∨ 0 < i ∧ (UInt8.ofNat (x % 128 + 128)).toNat = 0) := by rw [hc]; omega
      rw [List.cons_append, go_on hbad (by rw [hc]; omega), hc, ih (x / 128) (by omega) (i + 1) _ (by omega) (by omega)]
      · rw [List.length_cons, show (x % 128 + 128) % 128 = x % 128 from by omega, show 7 * (i + 1) = 7 * i + 7 from by omega, Nat.pow_add]
        have e1 : x / 128 * (2 ^ (7 * i) * 2 ^ 7) = (x / 128 * 128) * 2 ^ (7 * i) := by rw [show (2 : Nat) ^ 7 = 128 from rfl, Nat.mul_comm (2 ^ (7 * i)) 128, ← Nat.mul_assoc]
        have e2 : x % 128 * 2 ^ (7 * i) + (x / 128 * 128) * 2 ^ (7 * i) = x * 2 ^ (7 * i) := by rw [← Nat.add_mul]; congr 1; omega
        rw [e1, Nat.add_assoc V, e2, show a + (i + 1) + (short (x / 128)).length = a + i + ((short (x / 128)).length + 1) from by omega]
      · rw [Nat.div_lt_iff_lt_mul (by decide), ← pow_split i h9]
        exact hx

theorem go_back (a : Nat) : ∀ (l : List UInt8) (i V : Nat), i ≤ 9 →
    (∃ e, (e = 2 ∨ e = 3) ∧ shortGo a l i V = ((0, e), (a, e))) ∨
    (∃ x m, shortGo a l i V = ((V + x * 2 ^ (7 * i), 0), (a + i + m, 0)) ∧ m ≤ l.length ∧ short x = l.take m ∧ x < 2 ^ (64 - 7 * i) ∧ (0 < i → x ≠ 0))
  | [], i, V, _ => .inl ⟨2, .inl rfl, rfl⟩
  | c :: r, i, V, hi => by
    by_cases hb : i = 9 ∧ 1 < c.toNat ∨ 0 < i ∧ c.toNat = 0
    · exact .inl ⟨3, .inr rfl, go_bad hb⟩
    · have hcl := c.toNat_lt
      by_cases hc : c.toNat < 128
      · refine .inr ⟨c.toNat, 1, ?_, by simp, ?_, ?_, by omega⟩
        · rw [go_last hb hc, Nat.mod_eq_of_lt hc]
        · rw [short_small hc]; simp
        · by_cases e : i = 9
          · subst e; simp; omega
          · refine Nat.lt_of_lt_of_le hc ?_
            exact (show 128 = 2 ^ 7 from rfl) ▸ Nat.pow_le_pow_right (by decide) (show 7 ≤ 64 - 7 * i by omega)
      · by_cases e9 : i = 9
        · omega
        · rw [go_on hb hc]
          rcases go_back a r (i + 1) (V + c.toNat % 128 * 2 ^ (7 * i)) (by omega) with ⟨e, he, h⟩ | ⟨x, m, h, hm, hs, hx, h0⟩
          · exact .inl ⟨e, he, h⟩
          · have hx0 := h0 (by omega)
            refine .inr ⟨c.toNat % 128 + x * 128, m + 1, ?_, by simpa using hm, ?_, ?_, by omega⟩
            · rw [h, show 7 * (i + 1) = 7 * i + 7 from by omega, Nat.pow_add]
              have e1 : x * (2 ^ (7 * i) * 2 ^ 7) = (x * 128) * 2 ^ (7 * i) := by rw [show (2 : Nat) ^ 7 = 128 from rfl, Nat.mul_comm (2 ^ (7 * i)) 128, ← Nat.mul_assoc]
              rw [e1, Nat.add_mul, Nat.add_assoc V, ← Nat.add_assoc a i 1, show a + i + 1 + m = a + i + (m + 1) from by omega]
            · rw [short_great (by omega), List.take_succ_cons, show (c.toNat % 128 + x * 128) / 128 = x from by omega, hs, show (c.toNat % 128 + x * 128) % 128 + 128 = c.toNat from by omega]
              congr 1
              simp
            · rw [pow_split i (by omega)]
              omega

theorem shortR_short (v : Nat) (hv : v < 18446744073709551616) (s : ByteArray) (l : List UInt8) (h : s.data.toList = short v ++ l) : shortR s 0 0 = ((v, 0), ((short v).length, 0)) := by
  unfold shortR
  rw [if_neg (by simp), List.drop_zero, h, go_short 0 l v 0 0 (by decide) (by omega) (by simpa using hv)]
  simp
theorem shortR_back (s : ByteArray) : (∃ e, (e = 2 ∨ e = 3) ∧ shortR s 0 0 = ((0, e), (0, e))) ∨ (∃ x m, shortR s 0 0 = ((x, 0), (m, 0)) ∧ m ≤ s.size ∧ short x = s.data.toList.take m ∧ x < 18446744073709551616) := by
  unfold shortR
  rw [if_neg (by simp), List.drop_zero]
  rcases go_back 0 s.data.toList 0 0 (by decide) with ⟨e, he, h⟩ | ⟨x, m, h, hm, hs, hx, _⟩
  · exact .inl ⟨e, he, h⟩
  · refine .inr ⟨x, m, ?_, by simpa using hm, hs, by simpa using hx⟩
    rw [h]
    simp
theorem shortR_any (s : ByteArray) (a e : Nat) (ha : a ≤ s.size) : (∃ f, f ≠ 0 ∧ shortR s a e = ((0, f), (a, f))) ∨ (∃ x m, shortR s a e = ((x, 0), (a + m, 0)) ∧ a + m ≤ s.size ∧ x < 18446744073709551616) := by
  unfold shortR
  by_cases he : e = 0
  · rw [if_neg (by simpa using he)]
    rcases go_back a (s.data.toList.drop a) 0 0 (by decide) with ⟨f, hf, h⟩ | ⟨x, m, h, hm, hs, hx, _⟩
    · exact .inl ⟨f, by omega, h⟩
    · refine .inr ⟨x, m, ?_, ?_, by simpa using hx⟩
      · rw [h]; simp
      · have hl : s.data.toList.length = s.size := by simp
        rw [List.length_drop, hl] at hm
        omega
  · rw [if_pos he]
    exact .inl ⟨e, he, rfl⟩
theorem textR_err {s : ByteArray} {a e f b g n : Nat} {most : Int} (h : shortR s a e = ((n, f), (b, g))) (hf : f ≠ 0) : textR s a e most = ((⟨#[]⟩, f), (b, g)) := by
  unfold textR; simp only [h]; rw [if_pos hf]
theorem textR_long {s : ByteArray} {a e b g n M : Nat} {most : Int} (h : shortR s a e = ((n, 0), (b, g))) (hm : most.toNat = M) (h2 : M < n) : textR s a e most = ((⟨#[]⟩, 5), (a, 5)) := by
  unfold textR; simp only [h]; rw [if_neg (by simp), if_pos (by omega)]
theorem textR_short {s : ByteArray} {a e b g n M : Nat} {most : Int} (h : shortR s a e = ((n, 0), (b, g))) (hm : most.toNat = M) (h2 : ¬ M < n) (h3 : s.size - b < n) : textR s a e most = ((⟨#[]⟩, 2), (a, 2)) := by
  unfold textR; simp only [h]; rw [if_neg (by simp), if_neg (by omega), if_pos h3]
theorem textR_ok {s : ByteArray} {a e b g n M : Nat} {most : Int} (h : shortR s a e = ((n, 0), (b, g))) (hm : most.toNat = M) (h2 : ¬ M < n) (h3 : ¬ s.size - b < n) : textR s a e most = rawR s b 0 n := by
  unfold textR; simp only [h]; rw [if_neg (by simp), if_neg (by omega), if_neg h3]

def endR (s : ByteArray) (a e : Nat) : Nat := if e = 0 ∧ a < s.size then 3 else e
end Go.Proofs.Ytdjpmgkcgpkkmaa.PackMath
