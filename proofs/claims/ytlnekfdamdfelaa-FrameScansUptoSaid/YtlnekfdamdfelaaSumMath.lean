/- Plain law of layer 1 (CRC-32), no program in sight: turns are linear over exclusive or, a table of eight turns of each byte does what eight turns do, and sums join by turns. -/
set_option linter.unusedVariables false
set_option linter.unusedSimpArgs false
namespace Go.Proofs.Ytlnekfdamdfelaa.SumMath

def poly : Nat := 3988292384
def ones : Nat := 4294967295

def turn (c : Nat) : Nat := if c % 2 = 1 then (c / 2) ^^^ poly else c / 2

theorem turn_lt {c : Nat} (h : c < 4294967296) : turn c < 4294967296 := by
  unfold turn
  split
  · exact Nat.xor_lt_two_pow (n := 32) (by omega) (by decide)
  · omega

theorem xor_div_two (a b : Nat) : (a ^^^ b) / 2 = a / 2 ^^^ b / 2 := by
  apply Nat.eq_of_testBit_eq
  intro i
  simp only [Nat.testBit_div_two, Nat.testBit_xor]

theorem xor_mod_two (a b : Nat) : (a ^^^ b) % 2 = (a % 2 + b % 2) % 2 := by
  have h := Nat.testBit_xor a b 0
  simp only [Nat.testBit_zero] at h
  have ha : a % 2 = 0 ∨ a % 2 = 1 := by omega
  have hb : b % 2 = 0 ∨ b % 2 = 1 := by omega
  have hx : (a ^^^ b) % 2 = 0 ∨ (a ^^^ b) % 2 = 1 := by omega
  rcases ha with ha | ha <;> rcases hb with hb | hb <;> rcases hx with hx | hx <;> simp [ha, hb, hx] at h ⊢

theorem turn_xor (a b : Nat) : turn (a ^^^ b) = turn a ^^^ turn b := by
  unfold turn
  rw [xor_mod_two, xor_div_two]
  have ha : a % 2 = 0 ∨ a % 2 = 1 := by omega
  have hb : b % 2 = 0 ∨ b % 2 = 1 := by omega
  rcases ha with ha | ha <;> rcases hb with hb | hb <;> simp [ha, hb]
  · rw [Nat.xor_assoc]
  · rw [Nat.xor_assoc, Nat.xor_comm (b / 2) poly, ← Nat.xor_assoc]
  · rw [Nat.xor_assoc, ← Nat.xor_assoc poly, Nat.xor_comm poly (b / 2), Nat.xor_assoc (b / 2), Nat.xor_self, Nat.xor_zero]

theorem turn_zero : turn 0 = 0 := by decide

theorem turn_inj {a b : Nat} (ha : a < 4294967296) (hb : b < 4294967296) (h : turn a = turn b) : a = b := by
  have hx : turn (a ^^^ b) = 0 := by rw [turn_xor, h, Nat.xor_self]
  have hl : a ^^^ b < 4294967296 := Nat.xor_lt_two_pow (n := 32) ha hb
  have hz : a ^^^ b = 0 := by
    generalize a ^^^ b = x at hx hl
    unfold turn at hx
    split at hx
    · exfalso
      have : x / 2 = poly := by
        have e : (x / 2 ^^^ poly) ^^^ poly = 0 ^^^ poly := by rw [hx]
        rw [Nat.xor_assoc, Nat.xor_self, Nat.xor_zero, Nat.zero_xor] at e
        exact e
      unfold poly at this
      omega
    · omega
  have e : (a ^^^ b) ^^^ b = 0 ^^^ b := by rw [hz]
  rw [Nat.xor_assoc, Nat.xor_self, Nat.xor_zero, Nat.zero_xor] at e
  exact e

def turns : Nat → Nat → Nat
  | 0, c => c
  | k + 1, c => turns k (turn c)

theorem turns_succ' (k c : Nat) : turns (k + 1) c = turn (turns k c) := by
  induction k generalizing c with
  | zero => rfl
  | succ k ih => show turns (k + 1) (turn c) = _; rw [ih]; rfl

theorem turns_lt (k : Nat) {c : Nat} (h : c < 4294967296) : turns k c < 4294967296 := by
  induction k generalizing c with
  | zero => exact h
  | succ k ih => exact ih (turn_lt h)

theorem turns_xor (k a b : Nat) : turns k (a ^^^ b) = turns k a ^^^ turns k b := by
  induction k generalizing a b with
  | zero => rfl
  | succ k ih => show turns k (turn (a ^^^ b)) = _; rw [turn_xor, ih]; rfl

theorem turns_zero (k : Nat) : turns k 0 = 0 := by
  induction k with
  | zero => rfl
  | succ k ih => show turns k (turn 0) = 0; rw [turn_zero, ih]

theorem turns_add (j k c : Nat) : turns (j + k) c = turns k (turns j c) := by
  induction j generalizing c with
  | zero => simp [turns]
  | succ j ih => rw [Nat.add_right_comm]; show turns (j + k) (turn c) = _; rw [ih]; rfl

theorem turns_inj (k : Nat) {a b : Nat} (ha : a < 4294967296) (hb : b < 4294967296) (h : turns k a = turns k b) : a = b := by
  induction k generalizing a b with
  | zero => exact h
  | succ k ih => exact turn_inj ha hb (ih (turn_lt ha) (turn_lt hb) h)

theorem turns_shift (k : Nat) (m : Nat) : turns k (m * 2 ^ k) = m := by
  induction k with
  | zero => simp [turns]
  | succ k ih =>
    show turns k (turn (m * 2 ^ (k + 1))) = m
    have e : m * 2 ^ (k + 1) = 2 * (m * 2 ^ k) := by rw [Nat.pow_succ]; simp [Nat.mul_comm, Nat.mul_left_comm]
    have : turn (m * 2 ^ (k + 1)) = m * 2 ^ k := by
      unfold turn
      rw [e, if_neg (by omega)]
      omega
    rw [this, ih]

theorem split256 (c : Nat) : (c % 256) ^^^ (c / 256 * 2 ^ 8) = c := by
  apply Nat.eq_of_testBit_eq
  intro i
  rw [Nat.testBit_xor, show (256 : Nat) = 2 ^ 8 from rfl, Nat.testBit_mod_two_pow, Nat.testBit_mul_two_pow, Nat.testBit_div_two_pow]
  by_cases h : i < 8
  · simp [h, Nat.not_le.2 h]
  · have h' : 8 ≤ i := by omega
    simp [h, h', Nat.sub_add_cancel h']

/-- What the table does for a byte is what eight turns do. -/
theorem byTable (c b : Nat) : turns 8 ((c % 256) ^^^ b) ^^^ c / 256 = turns 8 (c ^^^ b) := by
  have e : c ^^^ b = ((c % 256) ^^^ b) ^^^ (c / 256 * 2 ^ 8) := by
    conv => lhs; rw [← split256 c]
    rw [Nat.xor_assoc, Nat.xor_comm (c / 256 * 2 ^ 8) b, ← Nat.xor_assoc]
  rw [e, turns_xor 8 _ (c / 256 * 2 ^ 8), turns_shift]

def eat (c : Nat) (l : List UInt8) : Nat := l.foldl (fun c b => turns 8 (c ^^^ b.toNat)) c

theorem eat_nil (c : Nat) : eat c [] = c := rfl
theorem eat_cons (c : Nat) (b : UInt8) (l : List UInt8) : eat c (b :: l) = eat (turns 8 (c ^^^ b.toNat)) l := rfl
theorem eat_append (c : Nat) (l m : List UInt8) : eat c (l ++ m) = eat (eat c l) m := List.foldl_append

theorem byte_lt (b : UInt8) : b.toNat < 4294967296 := by have := b.toNat_lt; omega

theorem eat_lt {c : Nat} (h : c < 4294967296) (l : List UInt8) : eat c l < 4294967296 := by
  induction l generalizing c with
  | nil => exact h
  | cons b l ih => exact ih (turns_lt 8 (Nat.xor_lt_two_pow (n := 32) h (byte_lt b)))

theorem eat_snoc (c : Nat) (l : List UInt8) (b : UInt8) : eat c (l ++ [b]) = turns 8 (eat c l ^^^ b.toNat) := by
  rw [eat_append]; rfl

/-- Linear in what is taken up into. -/
theorem eat_xor (a c : Nat) (l : List UInt8) : eat (a ^^^ c) l = turns (8 * l.length) a ^^^ eat c l := by
  induction l generalizing a c with
  | nil => rfl
  | cons b l ih =>
    rw [eat_cons, eat_cons, Nat.xor_assoc, turns_xor, ih, List.length_cons, show 8 * (l.length + 1) = 8 + 8 * l.length from by omega, turns_add]

theorem xor_left_inj {a b c : Nat} (h : a ^^^ c = b ^^^ c) : a = b := by
  have e : (a ^^^ c) ^^^ c = (b ^^^ c) ^^^ c := by rw [h]
  simpa [Nat.xor_assoc] using e

theorem xor_right_inj {a b c : Nat} (h : c ^^^ a = c ^^^ b) : a = b := by
  rw [Nat.xor_comm c a, Nat.xor_comm c b] at h
  exact xor_left_inj h

theorem eat_inj {a c : Nat} (ha : a < 4294967296) (hc : c < 4294967296) (l : List UInt8) (h : eat a l = eat c l) : a = c := by
  induction l generalizing a c with
  | nil => exact h
  | cons b l ih =>
    have hb := byte_lt b
    have := ih (turns_lt 8 (Nat.xor_lt_two_pow (n := 32) ha hb)) (turns_lt 8 (Nat.xor_lt_two_pow (n := 32) hc hb)) h
    exact xor_left_inj (turns_inj 8 (Nat.xor_lt_two_pow (n := 32) ha hb) (Nat.xor_lt_two_pow (n := 32) hc hb) this)

/-- Another byte at one place makes another number. -/
theorem eat_other {c : Nat} (hc : c < 4294967296) (l m : List UInt8) {b d : UInt8} (h : eat c (l ++ b :: m) = eat c (l ++ d :: m)) : b = d := by
  rw [eat_append, eat_append, eat_cons, eat_cons] at h
  have hl := eat_lt hc l
  have h1 := Nat.xor_lt_two_pow (n := 32) hl (byte_lt b)
  have h2 := Nat.xor_lt_two_pow (n := 32) hl (byte_lt d)
  have := xor_right_inj (turns_inj 8 h1 h2 (eat_inj (turns_lt 8 h1) (turns_lt 8 h2) m h))
  exact UInt8.toNat_inj.1 this

def flip (c : Nat) : Nat := c ^^^ ones

theorem flip_lt {c : Nat} (h : c < 4294967296) : flip c < 4294967296 := Nat.xor_lt_two_pow (n := 32) h (by decide)
theorem flip_flip (c : Nat) : flip (flip c) = c := by unfold flip; rw [Nat.xor_assoc, Nat.xor_self, Nat.xor_zero]
theorem flip_inj {a b : Nat} (h : flip a = flip b) : a = b := xor_left_inj h
theorem flip_zero : flip 0 = ones := by decide

theorem flip_eq {c : Nat} (h : c < 4294967296) : flip c = 4294967295 - c := by
  have hs : (BitVec.ofNat 32 c ^^^ BitVec.allOnes 32).toNat = (~~~ BitVec.ofNat 32 c).toNat := by
    rw [BitVec.xor_allOnes]
  rw [BitVec.toNat_xor, BitVec.toNat_not, BitVec.toNat_ofNat, BitVec.toNat_allOnes, Nat.mod_eq_of_lt (by simpa using h)] at hs
  simpa [flip, ones] using hs

def more (s : Nat) (l : List UInt8) : Nat := flip (eat (flip s) l)

theorem more_lt {s : Nat} (h : s < 4294967296) (l : List UInt8) : more s l < 4294967296 := flip_lt (eat_lt (flip_lt h) l)
theorem more_append (s : Nat) (l m : List UInt8) : more (more s l) m = more s (l ++ m) := by
  unfold more; rw [flip_flip, eat_append]
theorem more_nil (s : Nat) : more s [] = s := by unfold more; rw [eat_nil, flip_flip]

/-- The sum of a text. -/
def crc (l : List UInt8) : Nat := more 0 l

theorem crc_lt (l : List UInt8) : crc l < 4294967296 := more_lt (by decide) l
theorem crc_eq (l : List UInt8) : crc l = flip (eat ones l) := by unfold crc more; rw [flip_zero]
theorem crc_append (l m : List UInt8) : more (crc l) m = crc (l ++ m) := more_append 0 l m

theorem crc_other (l m : List UInt8) {b d : UInt8} (h : crc (l ++ b :: m) = crc (l ++ d :: m)) : b = d := by
  rw [crc_eq, crc_eq] at h
  exact eat_other (by decide) l m (flip_inj h)

def join (a b n : Nat) : Nat := turns (8 * n) a ^^^ b

theorem join_crc (l m : List UInt8) : join (crc l) (crc m) m.length = crc (l ++ m) := by
  unfold join
  rw [crc_eq, crc_eq, crc_eq, eat_append]
  have h := eat_xor (eat ones l ^^^ ones) ones m
  rw [Nat.xor_assoc, Nat.xor_self, Nat.xor_zero] at h
  show turns (8 * m.length) (eat ones l ^^^ ones) ^^^ (eat ones m ^^^ ones) = eat (eat ones l) m ^^^ ones
  rw [h, Nat.xor_assoc]

theorem join_join (a b c n k : Nat) : join a (join b c k) (n + k) = join (join a b n) c k := by
  unfold join
  rw [turns_xor, Nat.mul_add, turns_add, Nat.xor_assoc]

end Go.Proofs.Ytlnekfdamdfelaa.SumMath
