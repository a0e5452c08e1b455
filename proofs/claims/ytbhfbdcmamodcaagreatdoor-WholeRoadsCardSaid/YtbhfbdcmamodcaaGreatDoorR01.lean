/- Plain law of layer 2: numbers as bytes, no program in sight; Plain law of layer 9: what is wrong with a commit; its bytes; Plain law of layer 2: what a reader answers, no program in sight; Plain law of layer 2: numbers of some bytes as a reader reads them; Plain law of layer 2: a short number is read from its own bytes alone; Plain law of layer 1 (CRC-32), no program in sight: turns are linear over exclusive or, a table of eight turns of each byte does what eight turns do, and sums join by turns; Plain law of layer 7: the bytes of a frame; Plain law: numbers of some bytes, there and back; Plain law of layer 13 (bloom), no program in sight: hashes, places, bits. -/
set_option linter.unusedVariables false
set_option linter.unusedSimpArgs false
namespace Go.Proofs.YtbhfbdcmamodcaaGreatDoor.PackMath
def byteAt (x k : Nat) : UInt8 := UInt8.ofNat (x / 256 ^ k % 256)
def be (x : Nat) : Nat → List UInt8
  | 0 => []
  | n + 1 => byteAt x n :: be x n
theorem be_length (x n : Nat) : (be x n).length = n := by
  induction n with
  | zero => rfl
  | succ n ih => simp [be, ih]
theorem byteAt_toNat (x k : Nat) : (byteAt x k).toNat = x / 256 ^ k % 256 := by
  unfold byteAt
  rw [UInt8.toNat_ofNat']
  omega
def short (x : Nat) : List UInt8 := if x < 128 then [UInt8.ofNat x] else UInt8.ofNat (x % 128 + 128) :: short (x / 128)
termination_by x
decreasing_by omega
end Go.Proofs.YtbhfbdcmamodcaaGreatDoor.PackMath
namespace Go.Proofs.YtbhfbdcmamodcaaGreatDoor.PackMath
def inn (z : Int) : Bool := decide (0 ≤ z ∧ z < 65536)
def memB (z : Int) (zs : List Int) : Bool := decide (z ∈ zs)
theorem inn_yes {z : Int} (h : inn z = true) : 0 ≤ z ∧ z < 65536 := of_decide_eq_true h
def chkGo (pre : List Int) : List Int → Nat
  | [] => 0
  | z :: r => if inn z = false then 1 else if memB z pre = true then 11 else chkGo (pre ++ [z]) r
def checkR (t : Int) (zs : List Int) : Nat := if 16 < zs.length then 5 else if inn t = false then 1 else chkGo [] zs
theorem drop_at (zs : List Int) (k : Nat) (h : k < zs.length) : zs.drop k = zs[k] :: zs.drop (k + 1) := List.drop_eq_getElem_cons h
theorem take_at (zs : List Int) (k : Nat) (h : k < zs.length) : zs.take (k + 1) = zs.take k ++ [zs[k]] := by
  rw [List.take_succ_eq_append_getElem h]
theorem chk_in (zs : List Int) (k : Nat) (h : k < zs.length) (hi : inn zs[k] = false) : chkGo (zs.take k) (zs.drop k) = 1 := by
  rw [drop_at zs k h, chkGo, if_pos hi]
theorem chk_twice (zs : List Int) (k : Nat) (h : k < zs.length) (hi : inn zs[k] = true) (hm : memB zs[k] (zs.take k) = true) : chkGo (zs.take k) (zs.drop k) = 11 := by
  rw [drop_at zs k h, chkGo, if_neg (by rw [hi]; decide), if_pos hm]
theorem chk_on (zs : List Int) (k : Nat) (h : k < zs.length) (hi : inn zs[k] = true) (hm : memB zs[k] (zs.take k) = false) : chkGo (zs.take k) (zs.drop k) = chkGo (zs.take (k + 1)) (zs.drop (k + 1)) := by
  rw [drop_at zs k h, chkGo, if_neg (by rw [hi]; decide), if_neg (by rw [hm]; decide), take_at zs k h]
theorem chk_end (zs : List Int) (k : Nat) (h : zs.length ≤ k) : chkGo (zs.take k) (zs.drop k) = 0 := by
  rw [List.drop_of_length_le h, chkGo]
theorem check_long {t : Int} {zs : List Int} (h : 16 < zs.length) : checkR t zs = 5 := by unfold checkR; rw [if_pos h]
theorem check_tree {t : Int} {zs : List Int} (h : ¬ 16 < zs.length) (h2 : inn t = false) : checkR t zs = 1 := by unfold checkR; rw [if_neg h, if_pos h2]
theorem check_go {t : Int} {zs : List Int} (h : ¬ 16 < zs.length) (h2 : inn t = true) : checkR t zs = chkGo [] zs := by unfold checkR; rw [if_neg h, if_neg (by rw [h2]; decide)]
theorem chkGo_ok (pre zs : List Int) (h : chkGo pre zs = 0) : ∀ z ∈ zs, inn z = true := by
  induction zs generalizing pre with
  | nil => intro z hz; cases hz
  | cons x r ih =>
    intro z hz
    rw [chkGo] at h
    by_cases h1 : inn x = false
    · rw [if_pos h1] at h; cases h
    · rw [if_neg h1] at h
      by_cases h2 : memB x pre = true
      · rw [if_pos h2] at h; cases h
      · rw [if_neg h2] at h
        rcases List.mem_cons.1 hz with rfl | hz
        · simpa using h1
        · exact ih _ h z hz
theorem check_ok {t : Int} {zs : List Int} (h : checkR t zs = 0) : zs.length ≤ 16 ∧ inn t = true ∧ (∀ z ∈ zs, inn z = true) := by
  unfold checkR at h
  by_cases h1 : 16 < zs.length
  · rw [if_pos h1] at h; cases h
  · rw [if_neg h1] at h
    by_cases h2 : inn t = false
    · rw [if_pos h2] at h; cases h
    · rw [if_neg h2] at h
      exact ⟨by omega, by simpa using h2, chkGo_ok _ _ h⟩
def encC (t : Int) (zs : List Int) : List UInt8 := be t.toNat 4 ++ be zs.length 1 ++ zs.flatMap fun z => be z.toNat 4
theorem encC_take (zs : List Int) (k : Nat) (h : k < zs.length) : (zs.take (k + 1)).flatMap (fun z => be z.toNat 4) = (zs.take k).flatMap (fun z => be z.toNat 4) ++ be zs[k].toNat 4 := by
  rw [take_at zs k h, List.flatMap_append]; simp
theorem flat_len (zs : List Int) : (zs.flatMap fun z => be z.toNat 4).length = 4 * zs.length := by
  induction zs with
  | nil => rfl
  | cons x r ih => rw [List.flatMap_cons, List.length_append, ih, be_length, List.length_cons]; omega
end Go.Proofs.YtbhfbdcmamodcaaGreatDoor.PackMath
namespace Go.Proofs.YtbhfbdcmamodcaaGreatDoor.PackMath
def rawR (s : ByteArray) (at_ e : Nat) (n : Int) : (ByteArray × Nat) × (Nat × Nat) :=
  if e ≠ 0 then ((⟨#[]⟩, e), (at_, e)) else if n < 0 then ((⟨#[]⟩, 1), (at_, 1)) else if (s.size : Int) - at_ < n then ((⟨#[]⟩, 2), (at_, 2))
  else ((s.extract at_ (at_ + n.toNat), 0), (at_ + n.toNat, 0))
theorem rawR_err {s : ByteArray} {a e : Nat} {n : Int} (h : e ≠ 0) : rawR s a e n = ((⟨#[]⟩, e), (a, e)) := by unfold rawR; rw [if_pos h]
theorem rawR_neg {s : ByteArray} {a : Nat} {n : Int} (h : n < 0) : rawR s a 0 n = ((⟨#[]⟩, 1), (a, 1)) := by unfold rawR; rw [if_neg (by simp), if_pos h]
theorem rawR_short {s : ByteArray} {a : Nat} {n : Int} (h : ¬ n < 0) (h2 : (s.size : Int) - a < n) : rawR s a 0 n = ((⟨#[]⟩, 2), (a, 2)) := by unfold rawR; rw [if_neg (by simp), if_neg h, if_pos h2]
theorem rawR_ok {s : ByteArray} {a m : Nat} (h : a + m ≤ s.size) : rawR s a 0 m = ((s.extract a (a + m), 0), (a + m, 0)) := by
  unfold rawR; rw [if_neg (by simp), if_neg (by omega), if_neg (by omega)]; simp
def num (l : List UInt8) : Nat := l.foldl (fun v b => v * 256 + b.toNat) 0
def numR (s : ByteArray) (at_ e n : Nat) : (Nat × Nat) × (Nat × Nat) :=
  if e ≠ 0 then ((0, e), (at_, e)) else if s.size - at_ < n then ((0, 2), (at_, 2))
  else ((num (s.data.toList.drop at_ |>.take n), 0), (at_ + n, 0))
end Go.Proofs.YtbhfbdcmamodcaaGreatDoor.PackMath
namespace Go.Proofs.YtbhfbdcmamodcaaGreatDoor.PackMath
theorem num_snoc (l : List UInt8) (b : UInt8) : num (l ++ [b]) = num l * 256 + b.toNat := by simp [num]
theorem fold_lt (l : List UInt8) : ∀ v, l.foldl (fun v b => v * 256 + b.toNat) v < (v + 1) * 256 ^ l.length := by
  induction l with
  | nil => intro v; simp
  | cons b l ih =>
    intro v
    rw [List.foldl_cons, List.length_cons, Nat.pow_succ]
    refine Nat.lt_of_lt_of_le (ih _) ?_
    rw [Nat.mul_comm (256 ^ l.length) 256, ← Nat.mul_assoc]
    have := b.toNat_lt
    exact Nat.mul_le_mul_right _ (by omega)
theorem num_lt (l : List UInt8) : num l < 256 ^ l.length := by
  have := fold_lt l 0
  rw [Nat.zero_add, Nat.one_mul] at this
  exact this
theorem take_byte (t : ByteArray) (k : Nat) (h : k < t.size) : t.data.toList.take (k + 1) = t.data.toList.take k ++ [t[k]] := by
  rw [List.take_succ_eq_append_getElem (by simpa using h)]; rfl
theorem num_take (t : ByteArray) (k : Nat) (h : k < t.size) : num (t.data.toList.take (k + 1)) = num (t.data.toList.take k) * 256 + t[k].toNat := by
  rw [take_byte t k h, num_snoc]
theorem num_take_lt (l : List UInt8) (k : Nat) (hk : k ≤ 7) : num (l.take k) < 72057594037927936 := by
  refine Nat.lt_of_lt_of_le (num_lt _) ?_
  refine Nat.le_trans (Nat.pow_le_pow_right (by decide) (show (l.take k).length ≤ 7 by rw [List.length_take]; omega)) (by decide)
theorem or256 (v b : Nat) (h : b < 256) : v * 256 ||| b = v * 256 + b := by
  have := Nat.shiftLeft_add_eq_or_of_lt (i := 8) (b := b) h v
  rw [Nat.shiftLeft_eq] at this
  exact this.symm
theorem extract_list (s : ByteArray) (a b : Nat) : (s.extract a b).data.toList = (s.data.toList.drop a).take (b - a) := by
  rw [ByteArray.data_extract, Array.toList_extract]
theorem numR_err {s : ByteArray} {a e n : Nat} (h : e ≠ 0) : numR s a e n = ((0, e), (a, e)) := by unfold numR; rw [if_pos h]
theorem numR_short {s : ByteArray} {a n : Nat} (h : s.size - a < n) : numR s a 0 n = ((0, 2), (a, 2)) := by unfold numR; rw [if_neg (by simp), if_pos h]
theorem numR_ok {s : ByteArray} {a n : Nat} (h : n ≤ s.size - a) : numR s a 0 n = ((num ((s.data.toList.drop a).take n), 0), (a + n, 0)) := by unfold numR; rw [if_neg (by simp), if_neg (by omega)]
theorem numR_raw {s t : ByteArray} {a e n f b g : Nat} (hs : a ≤ s.size) (h : rawR s a e n = ((t, f), (b, g))) : numR s a e n = ((num t.data.toList, f), (b, g)) ∧ t.size ≤ n := by
  by_cases he : e = 0
  · subst he
    by_cases hn : a + n ≤ s.size
    · rw [rawR_ok hn] at h
      simp only [Prod.mk.injEq] at h
      obtain ⟨⟨rfl, rfl⟩, rfl, rfl⟩ := h
      rw [numR_ok (by omega), extract_list, show a + n - a = n from by omega]
      refine ⟨rfl, ?_⟩
      rw [ByteArray.size_extract]
      omega
    · rw [rawR_short (by omega) (by omega)] at h
      simp only [Prod.mk.injEq] at h
      obtain ⟨⟨rfl, rfl⟩, rfl, rfl⟩ := h
      rw [numR_short (by omega)]
      exact ⟨rfl, Nat.zero_le _⟩
  · rw [rawR_err he] at h
    simp only [Prod.mk.injEq] at h
    obtain ⟨⟨rfl, rfl⟩, rfl, rfl⟩ := h
    rw [numR_err he]
    exact ⟨rfl, Nat.zero_le _⟩
theorem numR_lt (s : ByteArray) (a e n : Nat) : (numR s a e n).1.1 < 256 ^ n := by
  have hp : 0 < 256 ^ n := Nat.pow_pos (by decide)
  unfold numR
  split
  · exact hp
  · split
    · exact hp
    · refine Nat.lt_of_lt_of_le (num_lt _) (Nat.pow_le_pow_right (by decide) ?_)
      rw [List.length_take]
      omega
end Go.Proofs.YtbhfbdcmamodcaaGreatDoor.PackMath
namespace Go.Proofs.YtbhfbdcmamodcaaGreatDoor.PackMath
def endR (s : ByteArray) (a e : Nat) : Nat := if e = 0 ∧ a < s.size then 3 else e
end Go.Proofs.YtbhfbdcmamodcaaGreatDoor.PackMath
namespace Go.Proofs.YtbhfbdcmamodcaaGreatDoor.SumMath
def poly : Nat := 3988292384
def ones : Nat := 4294967295
def turn (c : Nat) : Nat := if c % 2 = 1 then (c / 2) ^^^ poly else c / 2
theorem turn_lt {c : Nat} (h : c < 4294967296) : turn c < 4294967296 := by
  unfold turn
  split
  · exact Nat.xor_lt_two_pow (n := 32) (by omega) (by decide)
  · omega
theorem xor_div_two (a b : Nat) : (a ^^^ b) / 2 = a / 2 ^^^ b / 2 := by
  apply Nat.eq_of_testBit_eq
  intro i
  simp only [Nat.testBit_div_two, Nat.testBit_xor]
theorem xor_mod_two (a b : Nat) : (a ^^^ b) % 2 = (a % 2 + b % 2) % 2 := by
  have h := Nat.testBit_xor a b 0
  simp only [Nat.testBit_zero] at h
  have ha : a % 2 = 0 ∨ a % 2 = 1 := by omega
  have hb : b % 2 = 0 ∨ b % 2 = 1 := by omega
  have hx : (a ^^^ b) % 2 = 0 ∨ (a ^^^ b) % 2 = 1 := by omega
  rcases ha with ha | ha <;> rcases hb with hb | hb <;> rcases hx with hx | hx <;> simp [ha, hb, hx] at h ⊢
theorem turn_xor (a b : Nat) : turn (a ^^^ b) = turn a ^^^ turn b := by
  unfold turn
  rw [xor_mod_two, xor_div_two]
  have ha : a % 2 = 0 ∨ a % 2 = 1 := by omega
  have hb : b % 2 = 0 ∨ b % 2 = 1 := by omega
  rcases ha with ha | ha <;> rcases hb with hb | hb <;> simp [ha, hb]
  · rw [Nat.xor_assoc]
  · rw [Nat.xor_assoc, Nat.xor_comm (b / 2) poly, ← Nat.xor_assoc]
  · rw [Nat.xor_assoc, ← Nat.xor_assoc poly, Nat.xor_comm poly (b / 2), Nat.xor_assoc (b / 2), Nat.xor_self, Nat.xor_zero]
def turns : Nat → Nat → Nat
  | 0, c => c
  | k + 1, c => turns k (turn c)
theorem turns_succ' (k c : Nat) : turns (k + 1) c = turn (turns k c) := by
  induction k generalizing c with
  | zero => rfl
  | succ k ih => show turns (k + 1) (turn c) = _; rw [ih]; rfl
theorem turns_lt (k : Nat) {c : Nat} (h : c < 4294967296) : turns k c < 4294967296 := by
  induction k generalizing c with
  | zero => exact h
  | succ k ih => exact ih (turn_lt h)
theorem turns_xor (k a b : Nat) : turns k (a ^^^ b) = turns k a ^^^ turns k b := by
  induction k generalizing a b with
  | zero => rfl
  | succ k ih => show turns k (turn (a ^^^ b)) = _; rw [turn_xor, ih]; rfl
theorem turns_shift (k : Nat) (m : Nat) : turns k (m * 2 ^ k) = m := by
  induction k with
  | zero => simp [turns]
  | succ k ih =>
    show turns k (turn (m * 2 ^ (k + 1))) = m
    have e : m * 2 ^ (k + 1) = 2 * (m * 2 ^ k) := by rw [Nat.pow_succ]; simp [Nat.mul_comm, Nat.mul_left_comm]
    have : turn (m * 2 ^ (k + 1)) = m * 2 ^ k := by
      unfold turn
      rw [e, if_neg (by omega)]
      omega
    rw [this, ih]
theorem split256 (c : Nat) : (c % 256) ^^^ (c / 256 * 2 ^ 8) = c := by
  apply Nat.eq_of_testBit_eq
  intro i
  rw [Nat.testBit_xor, show (256 : Nat) = 2 ^ 8 from rfl, Nat.testBit_mod_two_pow, Nat.testBit_mul_two_pow, Nat.testBit_div_two_pow]
  by_cases h : i < 8
  · simp [h, Nat.not_le.2 h]
  · have h' : 8 ≤ i := by omega
    simp [h, h', Nat.sub_add_cancel h']
theorem byTable (c b : Nat) : turns 8 ((c % 256) ^^^ b) ^^^ c / 256 = turns 8 (c ^^^ b) := by
  have e : c ^^^ b = ((c % 256) ^^^ b) ^^^ (c / 256 * 2 ^ 8) := by
    conv => lhs; rw [← split256 c]
    rw [Nat.xor_assoc, Nat.xor_comm (c / 256 * 2 ^ 8) b, ← Nat.xor_assoc]
  rw [e, turns_xor 8 _ (c / 256 * 2 ^ 8), turns_shift]
def eat (c : Nat) (l : List UInt8) : Nat := l.foldl (fun c b => turns 8 (c ^^^ b.toNat)) c
theorem eat_append (c : Nat) (l m : List UInt8) : eat c (l ++ m) = eat (eat c l) m := List.foldl_append
theorem byte_lt (b : UInt8) : b.toNat < 4294967296 := by have := b.toNat_lt; omega
theorem eat_lt {c : Nat} (h : c < 4294967296) (l : List UInt8) : eat c l < 4294967296 := by
  induction l generalizing c with
  | nil => exact h
  | cons b l ih => exact ih (turns_lt 8 (Nat.xor_lt_two_pow (n := 32) h (byte_lt b)))
theorem eat_snoc (c : Nat) (l : List UInt8) (b : UInt8) : eat c (l ++ [b]) = turns 8 (eat c l ^^^ b.toNat) := by
  rw [eat_append]; rfl
def flip (c : Nat) : Nat := c ^^^ ones
theorem flip_lt {c : Nat} (h : c < 4294967296) : flip c < 4294967296 := Nat.xor_lt_two_pow (n := 32) h (by decide)
theorem flip_zero : flip 0 = ones := by decide
def more (s : Nat) (l : List UInt8) : Nat := flip (eat (flip s) l)
theorem more_lt {s : Nat} (h : s < 4294967296) (l : List UInt8) : more s l < 4294967296 := flip_lt (eat_lt (flip_lt h) l)
def crc (l : List UInt8) : Nat := more 0 l
theorem crc_lt (l : List UInt8) : crc l < 4294967296 := more_lt (by decide) l
theorem crc_eq (l : List UInt8) : crc l = flip (eat ones l) := by unfold crc more; rw [flip_zero]
end Go.Proofs.YtbhfbdcmamodcaaGreatDoor.SumMath
namespace Go.Proofs.YtbhfbdcmamodcaaGreatDoor.FrMath
open PackMath SumMath
def headF (K : Nat) (body : ByteArray) : List UInt8 := be K 1 ++ be body.size 4 ++ body.data.toList
def encF (K : Nat) (body : ByteArray) : List UInt8 := headF K body ++ be (crc (headF K body)) 4
theorem headF_len (K : Nat) (body : ByteArray) : (headF K body).length = body.size + 5 := by
  unfold headF
  rw [List.length_append, List.length_append, be_length, be_length]
  have : body.data.toList.length = body.size := by simp
  omega
theorem encF_len (K : Nat) (body : ByteArray) : (encF K body).length = body.size + 9 := by
  unfold encF
  rw [List.length_append, be_length, headF_len]
def frE (k : Int) (body : ByteArray) : Nat := if k < 1 ∨ 255 < k then 1 else if 1048576 < body.size then 5 else 0
def frS (k : Int) (body : ByteArray) : ByteArray := if frE k body = 0 then ⟨(encF k.toNat body).toArray⟩ else ⟨#[]⟩
theorem fr_kind {k : Int} {body : ByteArray} (h : k < 1 ∨ 255 < k) : frE k body = 1 ∧ frS k body = ⟨#[]⟩ := by
  have e : frE k body = 1 := by unfold frE; rw [if_pos h]
  exact ⟨e, by unfold frS; rw [if_neg (by rw [e]; decide)]⟩
theorem fr_long {k : Int} {body : ByteArray} (h : ¬ (k < 1 ∨ 255 < k)) (h2 : 1048576 < body.size) : frE k body = 5 ∧ frS k body = ⟨#[]⟩ := by
  have e : frE k body = 5 := by unfold frE; rw [if_neg h, if_pos h2]
  exact ⟨e, by unfold frS; rw [if_neg (by rw [e]; decide)]⟩
theorem fr_fine {k : Int} {body : ByteArray} (h : ¬ (k < 1 ∨ 255 < k)) (h2 : ¬ 1048576 < body.size) : frE k body = 0 ∧ frS k body = ⟨(encF k.toNat body).toArray⟩ := by
  have e : frE k body = 0 := by unfold frE; rw [if_neg h, if_neg h2]
  exact ⟨e, by unfold frS; rw [if_pos e]⟩
end Go.Proofs.YtbhfbdcmamodcaaGreatDoor.FrMath
namespace Go.Proofs.YtbhfbdcmamodcaaGreatDoor.PackMath
theorem fold_num (l : List UInt8) : ∀ v, l.foldl (fun v b => v * 256 + b.toNat) v = v * 256 ^ l.length + num l := by
  induction l with
  | nil => intro v; simp [num]
  | cons b r ih =>
    intro v
    show r.foldl (fun v b => v * 256 + b.toNat) (v * 256 + b.toNat) = v * 256 ^ (r.length + 1) + r.foldl (fun v b => v * 256 + b.toNat) (0 * 256 + b.toNat)
    rw [ih, ih (0 * 256 + b.toNat), Nat.pow_succ, Nat.add_mul, Nat.zero_mul, Nat.zero_add, Nat.mul_assoc v, Nat.mul_comm 256, Nat.add_assoc]
theorem num_cons (b : UInt8) (l : List UInt8) : num (b :: l) = b.toNat * 256 ^ l.length + num l := by
  rw [num, List.foldl_cons, fold_num, Nat.zero_mul, Nat.zero_add]
theorem num_be_mod (x n : Nat) : num (be x n) = x % 256 ^ n := by
  induction n with
  | zero => simp [be, num, Nat.mod_one]
  | succ n ih => rw [be, num_cons, byteAt_toNat, be_length, ih, Nat.mod_pow_succ, Nat.mul_comm, Nat.add_comm]
theorem num_be (x n : Nat) (h : x < 256 ^ n) : num (be x n) = x := by rw [num_be_mod, Nat.mod_eq_of_lt h]
theorem size_list (s : ByteArray) : s.data.toList.length = s.size := by simp
theorem drop_pre {l pre post : List UInt8} {k : Nat} (h : l = pre ++ post) (hk : pre.length = k) : l.drop k = post := by subst h; subst hk; simp
theorem numR_at {s : ByteArray} {pre post : List UInt8} {x n k : Nat} (h : s.data.toList = pre ++ (be x n ++ post)) (hk : pre.length = k) (hx : x < 256 ^ n) : numR s k 0 n = ((x, 0), (k + n, 0)) := by
  have hl := congrArg List.length h
  rw [size_list, List.length_append, List.length_append, be_length] at hl
  rw [numR_ok (by omega), drop_pre h hk]
  have ht : (be x n ++ post).take n = be x n := by
    have := be_length x n
    rw [List.take_append_of_le_length (by omega), List.take_of_length_le (by omega)]
  rw [ht, num_be x n hx]
end Go.Proofs.YtbhfbdcmamodcaaGreatDoor.PackMath
namespace Go.Proofs.YtbhfbdcmamodcaaGreatDoor.BlMath
def mix (h b : Nat) : Nat := (h ^^^ b) * 16777619 % 4294967296
def eatH (h : Nat) (l : List UInt8) : Nat := l.foldl (fun h b => mix h b.toNat) h
theorem mix_lt (h b : Nat) : mix h b < 4294967296 := Nat.mod_lt _ (by decide)
theorem eatH_cons (h : Nat) (b : UInt8) (l : List UInt8) : eatH h (b :: l) = eatH (mix h b.toNat) l := by simp [eatH]
theorem eatH_nil (h : Nat) : eatH h [] = h := by simp [eatH]
theorem eat_inv (P : Nat → Prop) (hP : ∀ h b, P (mix h b)) : ∀ (l : List UInt8) (h : Nat), P h → P (eatH h l)
  | [], h, hh => by rw [eatH_nil]; exact hh
  | b :: l, h, _ => by rw [eatH_cons]; exact eat_inv P hP l _ (hP h b.toNat)
def Fits (h : Nat) : Prop := h < 4294967296
theorem eatH_fits {h : Nat} (hh : Fits h) (l : List UInt8) : Fits (eatH h l) := eat_inv Fits mix_lt l h hh
theorem eatH_lt {h : Nat} (hh : h < 4294967296) (l : List UInt8) : eatH h l < 4294967296 := eatH_fits hh l
theorem eatH_snoc (h : Nat) (l : List UInt8) (b : UInt8) : eatH h (l ++ [b]) = mix (eatH h l) b.toNat := by unfold eatH; rw [List.foldl_append, List.foldl_cons, List.foldl_nil]
def fin1 (h : Nat) : Nat := (h ^^^ h / 65536) * 2246822507 % 4294967296
def fin2 (h : Nat) : Nat := (h ^^^ h / 8192) * 3266489909 % 4294967296
def hashR (seed : Nat) (l : List UInt8) : Nat := fin2 (fin1 (eatH (2166136261 ^^^ seed) l)) ^^^ fin2 (fin1 (eatH (2166136261 ^^^ seed) l)) / 65536
theorem fin1_lt (h : Nat) : fin1 h < 4294967296 := Nat.mod_lt _ (by decide)
theorem fin2_lt (h : Nat) : fin2 h < 4294967296 := Nat.mod_lt _ (by decide)
theorem hashR_lt (seed : Nat) (l : List UInt8) : hashR seed l < 4294967296 :=
  Nat.xor_lt_two_pow (n := 32) (fin2_lt _) (Nat.lt_of_le_of_lt (Nat.div_le_self _ _) (fin2_lt _))
def placeAt (a b n k : Nat) : Nat := (a + k * b) % 4294967296 % n
theorem step_place (a b k : Nat) : ((a + k * b) % 4294967296 + b) % 4294967296 = (a + (k + 1) * b) % 4294967296 := by
  rw [Nat.mod_add_mod, Nat.add_assoc, Nat.succ_mul]
def placesL (H a b n : Nat) : List Nat := (List.range H).map (placeAt a b n)
theorem placesL_length (H a b n : Nat) : (placesL H a b n).length = H := by simp [placesL]
theorem placesL_take (H a b n k : Nat) (hk : k < H) : (placesL H a b n).take (k + 1) = (placesL H a b n).take k ++ [placeAt a b n k] := by
  rw [List.take_succ_eq_append_getElem (by simpa [placesL] using hk)]
  simp [placesL]
theorem placesL_lt {H a b n : Nat} (hn : 0 < n) : ∀ x ∈ placesL H a b n, x < n := by
  intro x hx
  obtain ⟨k, _, rfl⟩ := List.mem_map.1 hx
  exact Nat.mod_lt _ hn
def pl (H seed n : Nat) (p : ByteArray) : List Nat := placesL H (hashR seed p.data.toList) (hashR ((seed + 1) % 4294967296) p.data.toList ||| 1) n
theorem pl_lt {H seed n : Nat} (hn : 0 < n) (p : ByteArray) : ∀ x ∈ pl H seed n p, x < n := placesL_lt hn
theorem pl_length (H seed n : Nat) (p : ByteArray) : (pl H seed n p).length = H := placesL_length _ _ _ _
def numB (g : Nat → Bool) : Nat → Nat
  | 0 => 0
  | n + 1 => numB g n + if g n then 2 ^ n else 0
theorem numB_lt (g : Nat → Bool) (n : Nat) : numB g n < 2 ^ n := by
  induction n with
  | zero => simp [numB]
  | succ n ih => unfold numB; rw [Nat.pow_succ]; split <;> omega
theorem numB_bit (g : Nat → Bool) (n i : Nat) : (numB g n).testBit i = (decide (i < n) && g i) := by
  induction n with
  | zero => simp [numB]
  | succ n ih =>
    unfold numB
    have hl := numB_lt g n
    by_cases hg : g n = true
    · rw [if_pos hg, Nat.add_comm]
      rcases Nat.lt_trichotomy i n with h | h | h
      · rw [Nat.testBit_two_pow_add_gt h, ih]; simp [h, Nat.lt_succ_of_lt h]
      · subst h; rw [Nat.testBit_two_pow_add_eq, Nat.testBit_lt_two_pow hl]; simp [hg]
      · rw [Nat.testBit_lt_two_pow (Nat.lt_of_lt_of_le (by rw [Nat.pow_succ]; omega) (Nat.pow_le_pow_right (by decide) h))]
        have : ¬ i < n + 1 := by omega
        simp [this]
    · rw [if_neg hg, Nat.add_zero, ih]
      rcases Nat.lt_trichotomy i n with h | h | h
      · simp [h, Nat.lt_succ_of_lt h]
      · subst h; simp [hg]
      · have h1 : ¬ i < n + 1 := by omega
        have h2 : ¬ i < n := by omega
        simp [h1, h2]
def byteB (f : Nat → Bool) (j : Nat) : Nat := numB (fun i => f (8 * j + i)) 8
theorem byteB_lt (f : Nat → Bool) (j : Nat) : byteB f j < 256 := numB_lt _ 8
theorem byteB_or (f : Nat → Bool) (x : Nat) : byteB f (x / 8) ||| 2 ^ (x % 8) = byteB (fun i => f i || decide (i = x)) (x / 8) := by
  apply Nat.eq_of_testBit_eq
  intro i
  rw [Nat.testBit_or]
  unfold byteB
  rw [numB_bit, numB_bit, Nat.testBit_two_pow]
  have hx : 8 * (x / 8) + x % 8 = x := Nat.div_add_mod x 8
  by_cases hi : i < 8
  · have e : decide (x % 8 = i) = decide (8 * (x / 8) + i = x) := by
      apply decide_eq_decide.2
      constructor <;> intro h <;> omega
    simp [hi, e]
  · have e : decide (x % 8 = i) = false := by simp; omega
    simp [hi, e]
theorem byteB_other (f : Nat → Bool) (x j : Nat) (h : j ≠ x / 8) : byteB (fun i => f i || decide (i = x)) j = byteB f j := by
  apply Nat.eq_of_testBit_eq
  intro i
  unfold byteB
  rw [numB_bit, numB_bit]
  by_cases hi : i < 8
  · have e : decide (8 * j + i = x) = false := by simp; omega
    simp [hi, e]
  · simp [hi]
theorem byteB_zero (j : Nat) : byteB (fun _ => false) j = 0 := by
  apply Nat.eq_of_testBit_eq
  intro i
  unfold byteB
  rw [numB_bit]
  simp
def bytesB (f : Nat → Bool) (n : Nat) : List UInt8 := (List.range n).map fun j => UInt8.ofNat (byteB f j)
theorem bytesB_length (f : Nat → Bool) (n : Nat) : (bytesB f n).length = n := by simp [bytesB]
theorem bytesB_congr {f g : Nat → Bool} (n : Nat) (h : ∀ i, f i = g i) : bytesB f n = bytesB g n := by
  have : f = g := funext h
  rw [this]
theorem bytesB_set (f : Nat → Bool) (n x : Nat) : (bytesB f n).set (x / 8) (UInt8.ofNat (byteB f (x / 8) ||| 2 ^ (x % 8))) = bytesB (fun i => f i || decide (i = x)) n := by
  apply List.ext_getElem
  · simp [bytesB]
  · intro j h1 h2
    rw [List.getElem_set]
    by_cases e : x / 8 = j
    · subst e; rw [if_pos rfl, byteB_or]; simp [bytesB]
    · rw [if_neg e]; simp only [bytesB, List.getElem_map, List.getElem_range]; rw [byteB_other f x j (Ne.symm e)]
def setF (H seed n : Nat) (l : List ByteArray) (i : Nat) : Bool := l.any fun p => (pl H seed n p).contains i
end Go.Proofs.YtbhfbdcmamodcaaGreatDoor.BlMath
