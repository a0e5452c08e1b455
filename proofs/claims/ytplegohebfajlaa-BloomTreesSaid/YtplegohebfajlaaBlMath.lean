/- Plain law of layer 13 (bloom), no program in sight: hashes, places, bits. -/
set_option linter.unusedVariables false
set_option linter.unusedSimpArgs false
namespace Go.Proofs.Ytplegohebfajlaa.BlMath

def mix (h b : Nat) : Nat := (h ^^^ b) * 16777619 % 4294967296
def eatH (h : Nat) (l : List UInt8) : Nat := l.foldl (fun h b => mix h b.toNat) h
theorem mix_lt (h b : Nat) : mix h b < 4294967296 := Nat.mod_lt _ (by decide)
theorem eatH_cons (h : Nat) (b : UInt8) (l : List UInt8) : eatH h (b :: l) = eatH (mix h b.toNat) l := by simp [eatH]
theorem eatH_nil (h : Nat) : eatH h [] = h := by simp [eatH]
theorem eat_inv (P : Nat → Prop) (hP : ∀ h b, P (mix h b)) : ∀ (l : List UInt8) (h : Nat), P h → P (eatH h l)
  | [], h, hh => by rw [eatH_nil]; exact hh
  | b :: l, h, _ => by rw [eatH_cons]; exact eat_inv P hP l _ (hP h b.toNat)
def Fits (h : Nat) : Prop := h < 4294967296
theorem eatH_fits {h : Nat} (hh : Fits h) (l : List UInt8) : Fits (eatH h l) := eat_inv Fits mix_lt l h hh
theorem eatH_lt {h : Nat} (hh : h < 4294967296) (l : List UInt8) : eatH h l < 4294967296 := eatH_fits hh l
theorem eatH_snoc (h : Nat) (l : List UInt8) (b : UInt8) : eatH h (l ++ [b]) = mix (eatH h l) b.toNat := by unfold eatH; rw [List.foldl_append, List.foldl_cons, List.foldl_nil]
def fin1 (h : Nat) : Nat := (h ^^^ h / 65536) * 2246822507 % 4294967296
def fin2 (h : Nat) : Nat := (h ^^^ h / 8192) * 3266489909 % 4294967296
def hashR (seed : Nat) (l : List UInt8) : Nat := fin2 (fin1 (eatH (2166136261 ^^^ seed) l)) ^^^ fin2 (fin1 (eatH (2166136261 ^^^ seed) l)) / 65536
theorem fin1_lt (h : Nat) : fin1 h < 4294967296 := Nat.mod_lt _ (by decide)
theorem fin2_lt (h : Nat) : fin2 h < 4294967296 := Nat.mod_lt _ (by decide)
theorem hashR_lt (seed : Nat) (l : List UInt8) : hashR seed l < 4294967296 :=
  Nat.xor_lt_two_pow (n := 32) (fin2_lt _) (Nat.lt_of_le_of_lt (Nat.div_le_self _ _) (fin2_lt _))

/-- The k-th place. -/
def placeAt (a b n k : Nat) : Nat := (a + k * b) % 4294967296 % n
theorem step_place (a b k : Nat) : ((a + k * b) % 4294967296 + b) % 4294967296 = (a + (k + 1) * b) % 4294967296 := by
  rw [Nat.mod_add_mod, Nat.add_assoc, Nat.succ_mul]
theorem ref_place (a b k : Nat) : (a + k * b % 4294967296) % 4294967296 = (a + k * b) % 4294967296 := by rw [Nat.add_mod_mod]
def placesL (H a b n : Nat) : List Nat := (List.range H).map (placeAt a b n)
theorem placesL_length (H a b n : Nat) : (placesL H a b n).length = H := by simp [placesL]
theorem placesL_take (H a b n k : Nat) (hk : k < H) : (placesL H a b n).take (k + 1) = (placesL H a b n).take k ++ [placeAt a b n k] := by
  rw [List.take_succ_eq_append_getElem (by simpa [placesL] using hk)]
  simp [placesL]
theorem placesL_lt {H a b n : Nat} (hn : 0 < n) : ∀ x ∈ placesL H a b n, x < n := by
  intro x hx
  obtain ⟨k, _, rfl⟩ := List.mem_map.1 hx
  exact Nat.mod_lt _ hn
/-- The places of a path, by settings (hashes, the seed), among n bits. -/
def pl (H seed n : Nat) (p : ByteArray) : List Nat := placesL H (hashR seed p.data.toList) (hashR ((seed + 1) % 4294967296) p.data.toList ||| 1) n
theorem pl_lt {H seed n : Nat} (hn : 0 < n) (p : ByteArray) : ∀ x ∈ pl H seed n p, x < n := placesL_lt hn
theorem pl_length (H seed n : Nat) (p : ByteArray) : (pl H seed n p).length = H := placesL_length _ _ _ _

/-- A number of given bits. -/
def numB (g : Nat → Bool) : Nat → Nat
  | 0 => 0
  | n + 1 => numB g n + if g n then 2 ^ n else 0
theorem numB_lt (g : Nat → Bool) (n : Nat) : numB g n < 2 ^ n := by
  induction n with
  | zero => simp [numB]
  | succ n ih => unfold numB; rw [Nat.pow_succ]; split <;> omega
theorem numB_bit (g : Nat → Bool) (n i : Nat) : (numB g n).testBit i = (decide (i < n) && g i) := by
  induction n with
  | zero => simp [numB]
  | succ n ih =>
    unfold numB
    have hl := numB_lt g n
    by_cases hg : g n = true
    · rw [if_pos hg, Nat.add_comm]
      rcases Nat.lt_trichotomy i n with h | h | h
      · rw [Nat.testBit_two_pow_add_gt h, ih]; simp [h, Nat.lt_succ_of_lt h]
      · subst h; rw [Nat.testBit_two_pow_add_eq, Nat.testBit_lt_two_pow hl]; simp [hg]
      · rw [Nat.testBit_lt_two_pow (Nat.lt_of_lt_of_le (by rw [Nat.pow_succ]; omega) (Nat.pow_le_pow_right (by decide) h))]
        have : ¬ i < n + 1 := by omega
        simp [this]
    · rw [if_neg hg, Nat.add_zero, ih]
      rcases Nat.lt_trichotomy i n with h | h | h
      · simp [h, Nat.lt_succ_of_lt h]
      · subst h; simp [hg]
      · have h1 : ¬ i < n + 1 := by omega
        have h2 : ¬ i < n := by omega
        simp [h1, h2]
/-- The j-th byte of bits. -/
def byteB (f : Nat → Bool) (j : Nat) : Nat := numB (fun i => f (8 * j + i)) 8
theorem byteB_lt (f : Nat → Bool) (j : Nat) : byteB f j < 256 := numB_lt _ 8
theorem byteB_bit (f : Nat → Bool) (j i : Nat) (hi : i < 8) : (byteB f j).testBit i = f (8 * j + i) := by unfold byteB; rw [numB_bit]; simp [hi]
theorem byteB_or (f : Nat → Bool) (x : Nat) : byteB f (x / 8) ||| 2 ^ (x % 8) = byteB (fun i => f i || decide (i = x)) (x / 8) := by
  apply Nat.eq_of_testBit_eq
  intro i
  rw [Nat.testBit_or]
  unfold byteB
  rw [numB_bit, numB_bit, Nat.testBit_two_pow]
  have hx : 8 * (x / 8) + x % 8 = x := Nat.div_add_mod x 8
  by_cases hi : i < 8
  · have e : decide (x % 8 = i) = decide (8 * (x / 8) + i = x) := by
      apply decide_eq_decide.2
      constructor <;> intro h <;> omega
    simp [hi, e]
  · have e : decide (x % 8 = i) = false := by simp; omega
    simp [hi, e]
theorem byteB_other (f : Nat → Bool) (x j : Nat) (h : j ≠ x / 8) : byteB (fun i => f i || decide (i = x)) j = byteB f j := by
  apply Nat.eq_of_testBit_eq
  intro i
  unfold byteB
  rw [numB_bit, numB_bit]
  by_cases hi : i < 8
  · have e : decide (8 * j + i = x) = false := by simp; omega
    simp [hi, e]
  · simp [hi]
theorem byteB_congr {f g : Nat → Bool} (j : Nat) (h : ∀ i, f i = g i) : byteB f j = byteB g j := by
  have : f = g := funext h
  rw [this]
theorem byteB_zero (j : Nat) : byteB (fun _ => false) j = 0 := by
  apply Nat.eq_of_testBit_eq
  intro i
  unfold byteB
  rw [numB_bit]
  simp
/-- Is the bit at x set? -/
theorem byteB_at (f : Nat → Bool) (x : Nat) : byteB f (x / 8) / 2 ^ (x % 8) % 2 = if f x then 1 else 0 := by
  have h := byteB_bit f (x / 8) (x % 8) (Nat.mod_lt _ (by decide))
  rw [Nat.div_add_mod] at h
  rw [Nat.testBit_eq_decide_div_mod_eq] at h
  have h2 := Nat.mod_two_eq_zero_or_one (byteB f (x / 8) / 2 ^ (x % 8))
  cases hf : f x <;> rw [hf] at h <;> simp at h ⊢ <;> omega
/-- All bytes. -/
def bytesB (f : Nat → Bool) (n : Nat) : List UInt8 := (List.range n).map fun j => UInt8.ofNat (byteB f j)
theorem bytesB_length (f : Nat → Bool) (n : Nat) : (bytesB f n).length = n := by simp [bytesB]
theorem bytesB_congr {f g : Nat → Bool} (n : Nat) (h : ∀ i, f i = g i) : bytesB f n = bytesB g n := by
  have : f = g := funext h
  rw [this]
theorem bytesB_set (f : Nat → Bool) (n x : Nat) : (bytesB f n).set (x / 8) (UInt8.ofNat (byteB f (x / 8) ||| 2 ^ (x % 8))) = bytesB (fun i => f i || decide (i = x)) n := by
  apply List.ext_getElem
  · simp [bytesB]
  · intro j h1 h2
    rw [List.getElem_set]
    by_cases e : x / 8 = j
    · subst e; rw [if_pos rfl, byteB_or]; simp [bytesB]
    · rw [if_neg e]; simp only [bytesB, List.getElem_map, List.getElem_range]; rw [byteB_other f x j (Ne.symm e)]
/-- The bits of some paths. -/
def setF (H seed n : Nat) (l : List ByteArray) (i : Nat) : Bool := l.any fun p => (pl H seed n p).contains i
theorem setF_snoc (H seed n : Nat) (l : List ByteArray) (p : ByteArray) (i : Nat) : setF H seed n (l ++ [p]) i = (setF H seed n l i || (pl H seed n p).contains i) := by simp [setF]
end Go.Proofs.Ytplegohebfajlaa.BlMath
