/- Plain law of layer 9: what is told is read as it was, and what is read is told as it stood. -/
import Derived.Test.YtmmabkppadokkaaCmMath2
set_option linter.unusedVariables false
set_option linter.unusedSimpArgs false
namespace Go.Proofs.Ytmmabkppadokkaa.PackMath

theorem fold_num (l : List UInt8) : ∀ v, l.foldl (fun v b => v * 256 + b.toNat) v = v * 256 ^ l.length + num l := by
  induction l with
  | nil => intro v; simp [num]
  | cons b r ih =>
    intro v
    show r.foldl (fun v b => v * 256 + b.toNat) (v * 256 + b.toNat) = v * 256 ^ (r.length + 1) + r.foldl (fun v b => v * 256 + b.toNat) (0 * 256 + b.toNat)
    rw [ih, ih (0 * 256 + b.toNat), Nat.pow_succ, Nat.add_mul, Nat.zero_mul, Nat.zero_add, Nat.mul_assoc v, Nat.mul_comm 256, Nat.add_assoc]
theorem num_cons (b : UInt8) (l : List UInt8) : num (b :: l) = b.toNat * 256 ^ l.length + num l := by
  rw [num, List.foldl_cons, fold_num, Nat.zero_mul, Nat.zero_add]
theorem num_be_mod (x n : Nat) : num (be x n) = x % 256 ^ n := by
  induction n with
  | zero => simp [be, num, Nat.mod_one]
  | succ n ih => rw [be, num_cons, byteAt_toNat, be_length, ih, Nat.mod_pow_succ, Nat.mul_comm, Nat.add_comm]
theorem num_be (x n : Nat) (h : x < 256 ^ n) : num (be x n) = x := by rw [num_be_mod, Nat.mod_eq_of_lt h]
theorem be_num (l : List UInt8) : be (num l) l.length = l := by
  induction l with
  | nil => rfl
  | cons c r ih =>
    have hp : 0 < 256 ^ r.length := Nat.pow_pos (by decide)
    have hlt := num_lt r
    have hc := c.toNat_lt
    have h1 : num (c :: r) / 256 ^ r.length = c.toNat := by
      rw [num_cons, Nat.mul_comm, Nat.mul_add_div hp, Nat.div_eq_of_lt hlt, Nat.add_zero]
    have h2 : num (c :: r) % 256 ^ r.length = num r := by
      rw [num_cons, Nat.mul_comm, Nat.mul_add_mod, Nat.mod_eq_of_lt hlt]
    rw [List.length_cons, be]
    have hb : byteAt (num (c :: r)) r.length = c := by
      unfold byteAt
      rw [h1, Nat.mod_eq_of_lt hc]
      simp
    rw [hb, ← be_mod _ r.length r.length (Nat.le_refl _), h2, ih]

theorem size_list (s : ByteArray) : s.data.toList.length = s.size := by simp
theorem drop_pre {l pre post : List UInt8} {k : Nat} (h : l = pre ++ post) (hk : pre.length = k) : l.drop k = post := by subst h; subst hk; simp

/-- A number that stands behind some bytes. -/
theorem numR_at {s : ByteArray} {pre post : List UInt8} {x n k : Nat} (h : s.data.toList = pre ++ (be x n ++ post)) (hk : pre.length = k) (hx : x < 256 ^ n) : numR s k 0 n = ((x, 0), (k + n, 0)) := by
  have hl := congrArg List.length h
  rw [size_list, List.length_append, List.length_append, be_length] at hl
  rw [numR_ok (by omega), drop_pre h hk]
  have ht : (be x n ++ post).take n = be x n := by
    have := be_length x n
    rw [List.take_append_of_le_length (by omega), List.take_of_length_le (by omega)]
  rw [ht, num_be x n hx]
/-- What a reading without an error has read. -/
theorem numR_inv {s : ByteArray} {a e n x f b : Nat} (h : numR s a e n = ((x, f), (b, 0))) : e = 0 ∧ f = 0 ∧ b = a + n ∧ n ≤ s.size - a ∧ (s.data.toList.drop a).take n = be x n := by
  by_cases he : e = 0
  · subst he
    by_cases hn : s.size - a < n
    · rw [numR_short hn] at h
      simp at h
    · rw [numR_ok (by omega)] at h
      simp only [Prod.mk.injEq] at h
      obtain ⟨⟨rfl, rfl⟩, rfl, _⟩ := h
      refine ⟨rfl, rfl, rfl, by omega, ?_⟩
      have hl : ((s.data.toList.drop a).take n).length = n := by rw [List.length_take, List.length_drop, size_list]; omega
      conv => rhs; rw [← hl]
      rw [hl]
      have := be_num ((s.data.toList.drop a).take n)
      rw [hl] at this
      exact this.symm
  · rw [numR_err he] at h
    simp at h
    exact absurd h.2.2 he

def flatC (zs : List Int) : List UInt8 := zs.flatMap fun z => be z.toNat 4
theorem flatC_cons (z : Int) (zs : List Int) : flatC (z :: zs) = be z.toNat 4 ++ flatC zs := rfl
theorem flatC_len (zs : List Int) : (flatC zs).length = 4 * zs.length := flat_len zs

theorem reads_at {s : ByteArray} : ∀ (zs : List Int) (pre post : List UInt8) (k : Nat), (∀ z ∈ zs, inn z = true) → s.data.toList = pre ++ (flatC zs ++ post) → pre.length = k → readsR s zs.length k 0 = (zs, (k + 4 * zs.length, 0))
  | [], _, _, k, _, _, _ => rfl
  | z :: r, pre, post, k, hz, h, hk => by
    have hi := inn_yes (hz z (by simp))
    have h' : s.data.toList = pre ++ (be z.toNat 4 ++ (flatC r ++ post)) := by rw [h, flatC_cons, List.append_assoc]
    have h1 := numR_at h' hk (show z.toNat < 256 ^ 4 by have : (256 : Nat) ^ 4 = 4294967296 := rfl; omega)
    have h2 := reads_at r (pre ++ be z.toNat 4) post (k + 4) (fun y hy => hz y (by simp [hy])) (by rw [h', List.append_assoc]) (by rw [List.length_append, be_length, hk])
    rw [List.length_cons, readsR]
    simp only [h1, h2]
    rw [show ((z.toNat : Nat) : Int) = z from by omega, show k + 4 + 4 * r.length = k + 4 * (r.length + 1) from by omega]

theorem dec_enc {s : ByteArray} {t : Int} {zs : List Int} (hc : checkR t zs = 0) (h : s.data.toList = encC t zs) : decR s = (0, (t.toNat, zs)) := by
  obtain ⟨h16, hin, hall⟩ := check_ok hc
  have hi := inn_yes hin
  have h' : s.data.toList = [] ++ (be t.toNat 4 ++ (be zs.length 1 ++ (flatC zs ++ []))) := by rw [h, encC]; simp [flatC]
  have h1 := numR_at h' (k := 0) rfl (show t.toNat < 256 ^ 4 by have : (256 : Nat) ^ 4 = 4294967296 := rfl; omega)
  have h2 := numR_at (s := s) (pre := be t.toNat 4) (post := flatC zs ++ []) (x := zs.length) (n := 1) (k := 4) (by rw [h']; rfl) (be_length _ _) (by omega)
  have h3 := reads_at (s := s) zs (be t.toNat 4 ++ be zs.length 1) [] 5 hall (by rw [h', List.nil_append, List.append_assoc]) (by rw [List.length_append, be_length, be_length])
  have hsz : s.size = 5 + 4 * zs.length := by rw [← size_list, h, encC_len]
  have hE : endR s (5 + 4 * zs.length) 0 = 0 := by unfold endR; rw [if_neg (by omega)]
  exact dec_ok h1 h2 (by omega) h3 hE (by rw [show ((t.toNat : Nat) : Int) = t from by omega]; exact hc)
theorem dec_more {s : ByteArray} {t : Int} {zs : List Int} (hc : checkR t zs = 0) (h : s.data.toList = encC t zs ++ [0]) : decR s = (3, (0, [])) := by
  obtain ⟨h16, hin, hall⟩ := check_ok hc
  have hi := inn_yes hin
  have h' : s.data.toList = [] ++ (be t.toNat 4 ++ (be zs.length 1 ++ (flatC zs ++ [0]))) := by rw [h, encC]; simp [flatC]
  have h1 := numR_at h' (k := 0) rfl (show t.toNat < 256 ^ 4 by have : (256 : Nat) ^ 4 = 4294967296 := rfl; omega)
  have h2 := numR_at (s := s) (pre := be t.toNat 4) (post := flatC zs ++ [0]) (x := zs.length) (n := 1) (k := 4) (by rw [h']; rfl) (be_length _ _) (by omega)
  have h3 := reads_at (s := s) zs (be t.toNat 4 ++ be zs.length 1) [0] 5 hall (by rw [h', List.nil_append, List.append_assoc]) (by rw [List.length_append, be_length, be_length])
  have hsz : s.size = 5 + 4 * zs.length + 1 := by rw [← size_list, h, List.length_append, encC_len]; rfl
  have hE : endR s (5 + 4 * zs.length) 0 = 3 := by unfold endR; rw [if_pos ⟨rfl, by omega⟩]
  have := dec_end h1 h2 (by omega) h3 (by rw [hE]; decide)
  rw [hE] at this
  exact this

theorem reads_err {s : ByteArray} : ∀ (n a e : Nat), e ≠ 0 → (readsR s n a e).2 = (a, e)
  | 0, _, _, _ => rfl
  | n + 1, a, e, he => by rw [readsR]; simp only [numR_err he]; exact reads_err n a e he
theorem reads_less {s : ByteArray} : ∀ (zs : List Int) (pre : List UInt8) (k : Nat), zs ≠ [] → (∀ z ∈ zs, inn z = true) → s.data.toList = pre ++ (flatC zs).take (4 * zs.length - 1) → pre.length = k → ∃ a, (readsR s zs.length k 0).2 = (a, 2)
  | [], _, _, h, _, _, _ => absurd rfl h
  | z :: r, pre, k, _, hz, h, hk => by
    have hi := inn_yes (hz z (by simp))
    by_cases hr : r = []
    · subst hr
      have hl := congrArg List.length h
      rw [size_list, List.length_append, List.length_take, flatC_len] at hl
      simp only [List.length_cons, List.length_nil] at hl
      rw [List.length_cons, readsR]
      simp only [numR_short (show s.size - k < 4 by omega)]
      exact ⟨k, reads_err _ _ _ (by decide)⟩
    · have hrl : 0 < r.length := List.length_pos_iff.2 hr
      have h' : s.data.toList = pre ++ (be z.toNat 4 ++ (flatC r).take (4 * r.length - 1)) := by
        rw [h, flatC_cons, List.length_cons, List.take_append, be_length, List.take_of_length_le (by rw [be_length]; omega), show 4 * (r.length + 1) - 1 - 4 = 4 * r.length - 1 from by omega]
      have h1 := numR_at h' hk (show z.toNat < 256 ^ 4 by have : (256 : Nat) ^ 4 = 4294967296 := rfl; omega)
      obtain ⟨a, h2⟩ := reads_less r (pre ++ be z.toNat 4) (k + 4) hr (fun y hy => hz y (by simp [hy])) (by rw [h', List.append_assoc]) (by rw [List.length_append, be_length, hk])
      rw [List.length_cons, readsR]
      simp only [h1]
      exact ⟨a, h2⟩
theorem dec_less {s : ByteArray} {t : Int} {zs : List Int} (hc : checkR t zs = 0) (h : s.data.toList = (encC t zs).take ((encC t zs).length - 1)) : decR s = (2, (0, [])) := by
  obtain ⟨h16, hin, hall⟩ := check_ok hc
  have hi := inn_yes hin
  have hform : encC t zs = be t.toNat 4 ++ (be zs.length 1 ++ flatC zs) := by rw [encC, List.append_assoc]; rfl
  rw [encC_len] at h
  by_cases hz : zs = []
  · subst hz
    have h' : s.data.toList = [] ++ (be t.toNat 4 ++ []) := by
      rw [h, hform, List.take_append_of_le_length (by rw [be_length]; simp), List.take_of_length_le (by rw [be_length]; simp)]; simp
    have h1 := numR_at h' (k := 0) rfl (show t.toNat < 256 ^ 4 by have : (256 : Nat) ^ 4 = 4294967296 := rfl; omega)
    have hsz : s.size = 4 := by rw [← size_list, h', List.length_append, List.length_append, be_length]; rfl
    have h2 : numR s (0 + 4) 0 1 = ((0, 2), (0 + 4, 2)) := numR_short (by omega)
    have h3 : readsR s 0 (0 + 4) 2 = ([], (0 + 4, 2)) := rfl
    have hE : endR s (0 + 4) 2 = 2 := by unfold endR; rw [if_neg (by omega)]
    have := dec_end h1 h2 (by omega) h3 (by rw [hE]; decide)
    rw [hE] at this
    exact this
  · have hl : 0 < zs.length := List.length_pos_iff.2 hz
    have h' : s.data.toList = [] ++ (be t.toNat 4 ++ (be zs.length 1 ++ (flatC zs).take (4 * zs.length - 1))) := by
      rw [h, hform, List.take_append, be_length, List.take_of_length_le (by rw [be_length]; omega), List.take_append, be_length, List.take_of_length_le (by rw [be_length]; omega), show 5 + 4 * zs.length - 1 - 4 - 1 = 4 * zs.length - 1 from by omega]
      rfl
    have h1 := numR_at h' (k := 0) rfl (show t.toNat < 256 ^ 4 by have : (256 : Nat) ^ 4 = 4294967296 := rfl; omega)
    have h2 := numR_at (s := s) (pre := be t.toNat 4) (post := (flatC zs).take (4 * zs.length - 1)) (x := zs.length) (n := 1) (k := 4) (by rw [h']; rfl) (be_length _ _) (by omega)
    obtain ⟨a, h3⟩ := reads_less (s := s) zs (be t.toNat 4 ++ be zs.length 1) 5 hz hall (by rw [h', List.nil_append, List.append_assoc]) (by rw [List.length_append, be_length, be_length])
    have h4 : readsR s zs.length 5 0 = ((readsR s zs.length 5 0).1, (a, 2)) := by rw [← h3]
    have hE : endR s a 2 = 2 := by unfold endR; rw [if_neg (by omega)]
    have := dec_end h1 h2 (by omega) h4 (by rw [hE]; decide)
    rw [hE] at this
    exact this

theorem reads_inv {s : ByteArray} : ∀ (n a e : Nat) (l : List Int) (b : Nat), readsR s n a e = (l, (b, 0)) → e = 0 ∧ b = a + 4 * n ∧ 4 * n ≤ s.size - a ∧ (s.data.toList.drop a).take (4 * n) = flatC l ∧ l.length = n
  | 0, a, e, l, b, h => by
    rw [readsR] at h
    simp only [Prod.mk.injEq] at h
    obtain ⟨rfl, rfl, rfl⟩ := h
    exact ⟨rfl, by omega, by omega, by simp [flatC], rfl⟩
  | n + 1, a, e, l, b, h => by
    obtain ⟨x, f, c, g, hX⟩ : ∃ x f c g, numR s a e 4 = ((x, f), (c, g)) := ⟨_, _, _, _, rfl⟩
    rw [readsR, hX] at h
    simp only [Prod.mk.injEq] at h
    obtain ⟨rfl, h2⟩ := h
    obtain ⟨rfl, hb, hn, hl, hlen⟩ := reads_inv n c g _ b (by rw [← h2])
    obtain ⟨rfl, rfl, rfl, h4, hx⟩ := numR_inv hX
    refine ⟨rfl, by omega, by omega, ?_, by rw [List.length_cons, hlen]⟩
    rw [flatC_cons, ← hl, show ((x : Nat) : Int).toNat = x from by omega, ← hx, show 4 * (n + 1) = 4 + 4 * n from by omega, List.take_add, List.drop_drop]
theorem dec_back {s : ByteArray} {t : Nat} {zs : List Int} (h : decR s = (0, (t, zs))) : checkR t zs = 0 ∧ encC t zs = s.data.toList := by
  obtain ⟨t', f0, a1, e1, h0⟩ : ∃ x f c g, numR s 0 0 4 = ((x, f), (c, g)) := ⟨_, _, _, _, rfl⟩
  obtain ⟨n, f1, a2, e2, h1⟩ : ∃ x f c g, numR s a1 e1 1 = ((x, f), (c, g)) := ⟨_, _, _, _, rfl⟩
  obtain ⟨l, a, e, h2⟩ : ∃ l a e, readsR s n a2 e2 = (l, (a, e)) := ⟨_, _, _, rfl⟩
  by_cases hb : f1 = 0 ∧ 16 < n
  · rw [dec_form h0 h1 hb.1 hb.2] at h; simp at h
  · by_cases hE : endR s a e = 0
    · by_cases hc : checkR t' l = 0
      · rw [dec_ok h0 h1 hb h2 hE hc] at h
        simp only [Prod.mk.injEq, true_and] at h
        obtain ⟨rfl, rfl⟩ := h
        refine ⟨hc, ?_⟩
        have he : e = 0 ∧ s.size ≤ a := by
          unfold endR at hE
          by_cases hq : e = 0 ∧ a < s.size
          · rw [if_pos hq] at hE; cases hE
          · rw [if_neg hq] at hE
            exact ⟨hE, by omega⟩
        obtain ⟨rfl, hsa⟩ := he
        obtain ⟨rfl, hab, hn4, hfl, hll⟩ := reads_inv n a2 e2 l a h2
        obtain ⟨rfl, rfl, rfl, hn1, hx1⟩ := numR_inv h1
        obtain ⟨_, rfl, rfl, hn0, hx0⟩ := numR_inv h0
        have hs := size_list s
        rw [encC, Int.toNat_natCast, ← hx0, hll, ← hx1]
        have : (l.flatMap fun z => be z.toNat 4) = flatC l := rfl
        rw [this, ← hfl, List.drop_zero]
        have e1 : s.data.toList = s.data.toList.take 4 ++ s.data.toList.drop 4 := (List.take_append_drop 4 _).symm
        have e2 : s.data.toList.drop 4 = (s.data.toList.drop 4).take 1 ++ (s.data.toList.drop 4).drop 1 := (List.take_append_drop 1 _).symm
        have e3 : ((s.data.toList.drop (0 + 4 + 1)).take (4 * n)) = s.data.toList.drop (0 + 4 + 1) := List.take_of_length_le (by rw [List.length_drop]; omega)
        rw [e3]
        conv => rhs; rw [e1, e2, List.drop_drop]
        rw [List.append_assoc]
      · rw [dec_chk h0 h1 hb h2 hE hc] at h; simp at h
    · rw [dec_end h0 h1 hb h2 hE] at h
      simp only [Prod.mk.injEq] at h
      exact absurd h.1 hE
theorem dec_fail {s : ByteArray} {E t : Nat} {zs : List Int} (h : decR s = (E, (t, zs))) (hE : E ≠ 0) : t = 0 ∧ zs = [] := by
  unfold decR at h
  simp only at h
  split at h
  · simp only [Prod.mk.injEq] at h; exact ⟨h.2.1.symm, h.2.2.symm⟩
  · split at h
    · simp only [Prod.mk.injEq] at h; exact ⟨h.2.1.symm, h.2.2.symm⟩
    · split at h
      · simp only [Prod.mk.injEq] at h; exact ⟨h.2.1.symm, h.2.2.symm⟩
      · simp only [Prod.mk.injEq] at h; exact absurd h.1.symm hE
end Go.Proofs.Ytmmabkppadokkaa.PackMath
