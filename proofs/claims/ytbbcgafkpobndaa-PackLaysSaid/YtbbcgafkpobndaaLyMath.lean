/- Plain law of layer 2: what is laid is read back; with a byte less it is not. -/
import Derived.Test.YtbbcgafkpobndaaPackL2
import Derived.Test.YtbbcgafkpobndaaNumMath
import Derived.Test.YtbbcgafkpobndaaPackR
set_option linter.unusedVariables false
set_option linter.unusedSimpArgs false
namespace Go.Proofs.Ytbbcgafkpobndaa
open PackMath

/-- One reading of 'same': whether it is what was laid, and the place and the error behind it. -/
def oneR (s : ByteArray) (a e k n : Nat) (o : ByteArray) : Bool × Nat × Nat :=
  match k % 7 with
  | 0 => (decide ((numR s a e 1).1.2 = 0 ∧ (numR s a e 1).1.1 = n % 256), (numR s a e 1).2)
  | 1 => (decide ((numR s a e 2).1.2 = 0 ∧ (numR s a e 2).1.1 = n % 65536), (numR s a e 2).2)
  | 2 => (decide ((numR s a e 4).1.2 = 0 ∧ (numR s a e 4).1.1 = n % 4294967296), (numR s a e 4).2)
  | 3 => (decide ((numR s a e 8).1.2 = 0 ∧ (numR s a e 8).1.1 = n), (numR s a e 8).2)
  | 4 => (decide ((shortR s a e).1.2 = 0 ∧ (shortR s a e).1.1 = n), (shortR s a e).2)
  | 5 => (decide ((rawR s a e o.size).1.2 = 0 ∧ (rawR s a e o.size).1.1 = o), (rawR s a e o.size).2)
  | _ => (decide ((textR s a e o.size).1.2 = 0 ∧ (textR s a e o.size).1.1 = o), (textR s a e o.size).2)

theorem shortR_at {s : ByteArray} {pre post : List UInt8} {x k : Nat} (h : s.data.toList = pre ++ (short x ++ post)) (hk : pre.length = k) (hx : x < 18446744073709551616) : shortR s k 0 = ((x, 0), (k + (short x).length, 0)) := by
  unfold shortR
  rw [if_neg (by simp), drop_pre h hk, go_short k post x 0 0 (by decide) (by omega) (by simpa using hx)]
  simp
theorem rawR_at {s o : ByteArray} {pre post : List UInt8} {k : Nat} (h : s.data.toList = pre ++ (o.data.toList ++ post)) (hk : pre.length = k) : rawR s k 0 o.size = ((o, 0), (k + o.size, 0)) := by
  have hl := congrArg List.length h
  rw [size_list, List.length_append, List.length_append, size_list] at hl
  rw [rawR_ok (by omega)]
  have : s.extract k (k + o.size) = o := by
    apply ByteArray.ext
    apply Array.toList_inj.1
    rw [extract_list, drop_pre h hk, show k + o.size - k = o.data.toList.length from by rw [size_list]; omega, List.take_left]
  rw [this]
theorem one_ok {s : ByteArray} {pre post : List UInt8} {a k n : Nat} {o : ByteArray} (hn : n < 18446744073709551616) (ho : o.size < 18446744073709551616)
    (h : s.data.toList = pre ++ (layB k n o ++ post)) (hk : pre.length = a) : oneR s a 0 k n o = (true, a + (layB k n o).length, 0) := by
  rcases (show k % 7 = 0 ∨ k % 7 = 1 ∨ k % 7 = 2 ∨ k % 7 = 3 ∨ k % 7 = 4 ∨ k % 7 = 5 ∨ k % 7 = 6 by omega) with hj | hj | hj | hj | hj | hj | hj <;>
    (unfold layB at h; unfold oneR layB; simp only [hj] at h ⊢)
  · rw [← be_mod n 1 1 (Nat.le_refl _)] at h
    rw [numR_at h hk (Nat.mod_lt _ (by decide)), be_length]; simp
  · rw [← be_mod n 2 2 (Nat.le_refl _)] at h
    rw [numR_at h hk (Nat.mod_lt _ (by decide)), be_length]; simp
  · rw [← be_mod n 4 4 (Nat.le_refl _)] at h
    rw [numR_at h hk (Nat.mod_lt _ (by decide)), be_length]; simp
  · rw [numR_at h hk (by simpa using hn), be_length]; simp
  · rw [shortR_at h hk hn]; simp
  · rw [rawR_at h hk]; simp
  · have h1 : s.data.toList = pre ++ (short o.size ++ (o.data.toList ++ post)) := by rw [h]; simp [textOf]
    have h2 : s.data.toList = (pre ++ short o.size) ++ (o.data.toList ++ post) := by rw [h1]; simp
    have hl := congrArg List.length h2
    rw [size_list, List.length_append, List.length_append, List.length_append, size_list] at hl
    rw [textR_ok (shortR_at h1 hk ho) (Int.toNat_natCast _) (Nat.lt_irrefl _) (by omega), rawR_at h2 (by rw [List.length_append, hk])]
    simp [textOf]; omega
theorem numR_cut {s : ByteArray} {pre cut : List UInt8} {a m : Nat} (h : s.data.toList = pre ++ cut) (hk : pre.length = a) (hm : cut.length + 1 = m) : numR s a 0 m = ((0, 2), (a, 2)) := by
  have hl := congrArg List.length h
  rw [size_list, List.length_append] at hl
  exact numR_short (by omega)
/-- A short number of some bytes behind a place: an error, or a number that the bytes hold. -/
theorem shortR_cut {s : ByteArray} {pre cut : List UInt8} {a : Nat} (h : s.data.toList = pre ++ cut) (hk : pre.length = a) :
    (∃ f, f ≠ 0 ∧ shortR s a 0 = ((0, f), (a, f))) ∨ (∃ x m, shortR s a 0 = ((x, 0), (a + m, 0)) ∧ m ≤ cut.length ∧ short x = cut.take m) := by
  unfold shortR
  rw [if_neg (by simp), drop_pre h hk]
  rcases go_back a cut 0 0 (by decide) with ⟨f, hf, h⟩ | ⟨x, m, h, hm, hs, _, _⟩
  · exact .inl ⟨f, by omega, h⟩
  · refine .inr ⟨x, m, ?_, hm, hs⟩
    rw [h]; simp
theorem one_cut {s : ByteArray} {pre cut : List UInt8} {z : UInt8} {a k n : Nat} {o : ByteArray}
    (h : s.data.toList = pre ++ cut) (hk : pre.length = a) (hc : layB k n o = cut ++ [z]) : (oneR s a 0 k n o).1 = false := by
  have hl := congrArg List.length h
  rw [size_list, List.length_append] at hl
  have hcl := congrArg List.length hc
  rw [List.length_append, List.length_singleton] at hcl
  rcases (show k % 7 = 0 ∨ k % 7 = 1 ∨ k % 7 = 2 ∨ k % 7 = 3 ∨ k % 7 = 4 ∨ k % 7 = 5 ∨ k % 7 = 6 by omega) with hj | hj | hj | hj | hj | hj | hj <;>
    (unfold layB at hcl; unfold oneR; simp only [hj] at hcl ⊢)
  · rw [numR_cut h hk (by rw [be_length] at hcl; omega)]; simp
  · rw [numR_cut h hk (by rw [be_length] at hcl; omega)]; simp
  · rw [numR_cut h hk (by rw [be_length] at hcl; omega)]; simp
  · rw [numR_cut h hk (by rw [be_length] at hcl; omega)]; simp
  · rcases shortR_cut h hk with ⟨f, hf, e⟩ | ⟨x, m, e, hm, hs⟩
    · rw [e]; simp [hf]
    · rw [e]
      simp only [true_and, decide_eq_false_iff_not]
      intro hx
      subst hx
      have := congrArg List.length hs
      rw [List.length_take] at this
      omega
  · rw [size_list] at hcl
    rw [rawR_short (by omega) (by omega)]; simp
  · rcases shortR_cut h hk with ⟨f, hf, e⟩ | ⟨x, m, e, hm, hs⟩
    · rw [textR_err e hf]; simp [hf]
    · have hsl := congrArg List.length hs
      rw [List.length_take] at hsl
      by_cases h2 : o.size < x
      · rw [textR_long e (Int.toNat_natCast _) h2]; simp
      · by_cases h3 : s.size - (a + m) < x
        · rw [textR_short e (Int.toNat_natCast _) h2 h3]; simp
        · rw [textR_ok e (Int.toNat_natCast _) h2 h3, rawR_ok (by omega)]
          simp only [true_and, decide_eq_false_iff_not]
          intro ho
          have hx : x = o.size := by
            have := congrArg ByteArray.size ho
            rw [ByteArray.size_extract] at this
            omega
          subst hx
          simp [textOf] at hcl
          omega

/-- What 'same' answers, and the reader behind it. -/
def sameR (s : ByteArray) : List OpD → Nat → Nat → Bool × Nat × Nat
  | [], a, e => (true, a, e)
  | d :: r, a, e => if (oneR s a e d.k d.n d.s).1 = true then sameR s r (oneR s a e d.k d.n d.s).2.1 (oneR s a e d.k d.n d.s).2.2 else (false, (oneR s a e d.k d.n d.s).2)
def layAll (l : List OpD) : List UInt8 := l.flatMap fun d => layB d.k d.n d.s
theorem layAll_cons (d : OpD) (r : List OpD) : layAll (d :: r) = layB d.k d.n d.s ++ layAll r := by simp [layAll]
theorem same_ok {s : ByteArray} : ∀ (l : List OpD) (pre post : List UInt8) (a : Nat), (∀ d ∈ l, d.n < 18446744073709551616 ∧ d.s.size < 18446744073709551616) →
    s.data.toList = pre ++ (layAll l ++ post) → pre.length = a → sameR s l a 0 = (true, a + (layAll l).length, 0)
  | [], _, _, a, _, _, _ => by simp [sameR, layAll]
  | d :: r, pre, post, a, hd, h, hk => by
    have h0 := hd d (by simp)
    rw [layAll_cons, List.append_assoc] at h
    have h1 := one_ok h0.1 h0.2 h hk
    rw [sameR, h1, if_pos rfl, same_ok r (pre ++ layB d.k d.n d.s) post (a + (layB d.k d.n d.s).length) (fun x hx => hd x (by simp [hx])) (by rw [h]; simp) (by rw [List.length_append, hk]),
      layAll_cons, List.length_append, Nat.add_assoc]
theorem same_cut {s : ByteArray} : ∀ (l : List OpD) (pre cut : List UInt8) (z : UInt8) (a : Nat), (∀ d ∈ l, d.n < 18446744073709551616 ∧ d.s.size < 18446744073709551616) →
    s.data.toList = pre ++ cut → pre.length = a → layAll l = cut ++ [z] → (sameR s l a 0).1 = false
  | [], _, cut, z, _, _, _, _, hc => by simp [layAll] at hc
  | d :: r, pre, cut, z, a, hd, h, hk, hc => by
    have h0 := hd d (by simp)
    rw [layAll_cons] at hc
    by_cases he : layAll r = []
    · rw [he, List.append_nil] at hc
      rw [sameR, if_neg (by rw [one_cut h hk hc]; simp)]
    · have hr : layAll r = (layAll r).dropLast ++ [(layAll r).getLast he] := (List.dropLast_concat_getLast he).symm
      rw [hr, ← List.append_assoc] at hc
      obtain ⟨hc1, _⟩ := List.append_inj' hc rfl
      rw [← hc1] at h
      have h1 := one_ok h0.1 h0.2 h hk
      rw [sameR, h1, if_pos rfl]
      exact same_cut r (pre ++ layB d.k d.n d.s) (layAll r).dropLast _ _ (fun x hx => hd x (by simp [hx])) (by rw [h]; simp) (by rw [List.length_append, hk]) hr
end Go.Proofs.Ytbbcgafkpobndaa
