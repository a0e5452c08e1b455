/- Plain law of layer 7: frames laid one behind the other; a log that is cut. -/
import Derived.Test.YtlnekfdamdfelaaFrMath4
set_option linter.unusedVariables false
set_option linter.unusedSimpArgs false
namespace Go.Proofs.Ytlnekfdamdfelaa.FrMath
open PackMath SumMath

/-- One frame more, if it is good and there is room. -/
def laidStep (st : List UInt8 × List (Int × ByteArray)) (f : Int × ByteArray) : List UInt8 × List (Int × ByteArray) :=
  if frE f.1 f.2 = 0 ∧ st.1.length < 1048576 then (st.1 ++ (frS f.1 f.2).data.toList, st.2 ++ [f]) else st
def laidR (l : List (Int × ByteArray)) : List UInt8 × List (Int × ByteArray) := l.foldl laidStep ([], [])
theorem laid_snoc (l : List (Int × ByteArray)) (f : Int × ByteArray) : laidR (l ++ [f]) = laidStep (laidR l) f := by simp [laidR]
/-- A good frame. -/
def goodF (f : Int × ByteArray) : Prop := 1 ≤ f.1 ∧ f.1 ≤ 255 ∧ f.2.size ≤ 1048576
theorem good_of {k : Int} {b : ByteArray} (h : frE k b = 0) : goodF (k, b) ∧ (frS k b).data.toList = encF k.toNat b := by
  by_cases h1 : k < 1 ∨ 255 < k
  · rw [(fr_kind h1).1] at h; cases h
  · by_cases h2 : 1048576 < b.size
    · rw [(fr_long h1 h2).1] at h; cases h
    · refine ⟨⟨by show 1 ≤ k; omega, by show k ≤ 255; omega, by show b.size ≤ _; omega⟩, ?_⟩
      rw [(fr_fine h1 h2).2]
def flatFr (l : List (Int × ByteArray)) : List UInt8 := l.flatMap fun f => encF f.1.toNat f.2
def LInv (st : List UInt8 × List (Int × ByteArray)) : Prop := st.1 = flatFr st.2 ∧ (∀ f ∈ st.2, goodF f) ∧ st.1.length ≤ 2097161
theorem step_inv (st : List UInt8 × List (Int × ByteArray)) (f : Int × ByteArray) (ih : LInv st) : LInv (laidStep st f) := by
  unfold laidStep
  by_cases h : frE f.1 f.2 = 0 ∧ st.1.length < 1048576
  · rw [if_pos h]
    obtain ⟨hg, hs⟩ := good_of h.1
    have hb : f.2.size ≤ 1048576 := hg.2.2
    refine ⟨?_, ?_, ?_⟩
    · show st.1 ++ _ = flatFr (st.2 ++ [f])
      rw [ih.1, hs]; simp [flatFr]
    · intro x hx
      rcases List.mem_append.1 hx with hx | hx
      · exact ih.2.1 x hx
      · simp at hx; subst hx; exact hg
    · show (st.1 ++ (frS f.1 f.2).data.toList).length ≤ _
      rw [List.length_append, hs, encF_len]
      omega
  · rw [if_neg h]; exact ih
theorem fold_inv : ∀ (l : List (Int × ByteArray)) (st : List UInt8 × List (Int × ByteArray)), LInv st → LInv (l.foldl laidStep st)
  | [], _, h => h
  | f :: r, st, h => fold_inv r (laidStep st f) (step_inv st f h)
/-- What is laid: the bytes of good frames. -/
theorem laid_inv (l : List (Int × ByteArray)) : (laidR l).1 = flatFr (laidR l).2 ∧ (∀ f ∈ (laidR l).2, goodF f) ∧ (laidR l).1.length ≤ 2097161 :=
  fold_inv l ([], []) ⟨rfl, fun f hf => (by cases hf), by decide⟩
theorem flatFr_cons (f : Int × ByteArray) (l : List (Int × ByteArray)) : flatFr (f :: l) = encF f.1.toNat f.2 ++ flatFr l := rfl
theorem flatFr_len (l : List (Int × ByteArray)) : l.length * 9 ≤ (flatFr l).length := by
  induction l with
  | nil => exact Nat.le_refl _
  | cons f r ih => rw [flatFr_cons, List.length_append, encF_len, List.length_cons]; omega
theorem laid_count (l : List (Int × ByteArray)) : (laidR l).2.length ≤ 233018 := by
  have h := laid_inv l
  have h2 := flatFr_len (laidR l).2
  rw [← h.1] at h2
  omega

/-- A frame that is cut short isn't read. -/
theorem dec_cut {s : ByteArray} {K : Nat} {body : ByteArray} (hK : 1 ≤ K) (hK2 : K ≤ 255) (hl : body.size ≤ 1048576) (hm : s.size < body.size + 9) (h : s.data.toList = (encF K body).take s.size) : decP s = (2, (0, (⟨#[]⟩, 0))) := by
  have hbl : body.data.toList.length = body.size := by simp
  have hform : encF K body = be K 1 ++ (be body.size 4 ++ (body.data.toList ++ be (crc (headF K body)) 4)) := by
    unfold encF; conv => lhs; lhs; unfold headF
    simp
  have hsz := size_list s
  by_cases h1 : s.size < 1
  · have n0 : numR s 0 0 1 = ((0, 2), (0, 2)) := numR_short (by omega)
    have n1 : numR s 0 2 4 = ((0, 2), (0, 2)) := numR_err (by decide)
    exact dp_len n0 n1 (by decide) (by decide)
  · have e0 : s.data.toList = [] ++ (be K 1 ++ (be body.size 4 ++ (body.data.toList ++ be (crc (headF K body)) 4)).take (s.size - 1)) := by
      conv => lhs; rw [h, hform, List.take_append, be_length, List.take_of_length_le (by rw [be_length]; omega)]
      rfl
    have n0 := numR_at e0 (k := 0) rfl (show K < 256 ^ 1 by have : (256 : Nat) ^ 1 = 256 := rfl; omega)
    by_cases h5 : s.size < 5
    · have n1 : numR s (0 + 1) 0 4 = ((0, 2), (0 + 1, 2)) := numR_short (by omega)
      exact dp_len n0 n1 (by omega) (by decide)
    · have e1 : s.data.toList = be K 1 ++ (be body.size 4 ++ (body.data.toList ++ be (crc (headF K body)) 4).take (s.size - 1 - 4)) := by
        conv => lhs; rw [e0, List.take_append, be_length, List.take_of_length_le (by rw [be_length]; omega)]
        rfl
      have n1 := numR_at e1 (k := 1) (be_length _ _) (show body.size < 256 ^ 4 by have : (256 : Nat) ^ 4 = 4294967296 := rfl; omega)
      by_cases hb : s.size < 5 + body.size
      · have r : rawR s 5 0 (body.size : Int) = ((⟨#[]⟩, 2), (5, 2)) := rawR_short (by omega) (by omega)
        have n3 : numR s 5 2 4 = ((0, 2), (5, 2)) := numR_err (by decide)
        exact dp_short n0 n1 r n3 (by omega) rfl (by omega) (by decide)
      · have r : rawR s 5 0 (body.size : Int) = ((s.extract 5 (5 + body.size), 0), (5 + body.size, 0)) := rawR_ok (by omega)
        have n3 : numR s (5 + body.size) 0 4 = ((0, 2), (5 + body.size, 2)) := numR_short (by omega)
        exact dp_short n0 n1 r n3 (by omega) rfl (by omega) (by decide)

/-- The bytes of some frames. -/
def sizesF (l : List (Int × ByteArray)) : Nat := (flatFr l).length
/-- Scanning what is left of good frames. -/
theorem scan_cut (s : ByteArray) : ∀ (l : List (Int × ByteArray)) (fuel a : Nat), (∀ f ∈ l, goodF f) → a ≤ s.size → s.size ≤ a + fuel → s.data.toList.drop a = (flatFr l).take (s.size - a) → s.size - a ≤ (flatFr l).length →
    ∃ j E, j ≤ l.length ∧ scanGo s fuel a = (l.take j, (a + sizesF (l.take j), E)) ∧ a + sizesF (l.take j) ≤ s.size ∧ (E = 0 ∧ a + sizesF (l.take j) = s.size ∨ E = 2 ∧ a + sizesF (l.take j) < s.size) ∧ (∀ f, l[j]? = some f → s.size < a + sizesF (l.take j) + (f.2.size + 9))
  | [], fuel, a, _, ha, _, _, hl => by
    have : s.size = a := by
      have : (flatFr []).length = 0 := rfl
      omega
    refine ⟨0, 0, Nat.le_refl _, ?_, ?_, .inl ⟨rfl, ?_⟩, fun f hf => by simp at hf⟩
    · rw [sg_end (by omega)]; rfl
    · show a + 0 ≤ _; omega
    · show a + 0 = _; omega
  | f :: r, fuel, a, hg, ha, hf, hd, hl => by
    obtain ⟨g1, g2, g3⟩ := hg f (by simp)
    by_cases hlt : a < s.size
    · have hexd : (s.extract a s.size).data.toList = (flatFr (f :: r)).take (s.size - a) := by
        rw [extract_list, hd, List.take_take]; simp
      have hexs : (s.extract a s.size).size = s.size - a := by rw [ByteArray.size_extract]; omega
      by_cases hfit : f.2.size + 9 ≤ s.size - a
      · have hpost : (s.extract a s.size).data.toList = encF f.1.toNat f.2 ++ (flatFr r).take (s.size - a - (f.2.size + 9)) := by
          rw [hexd, flatFr_cons, List.take_append, encF_len, List.take_of_length_le (by rw [encF_len]; omega)]
        have hD := dec_frame (K := f.1.toNat) (body := f.2) (by omega) (by omega) g3 hpost
        have hd' : s.data.toList.drop (a + (f.2.size + 9)) = (flatFr r).take (s.size - (a + (f.2.size + 9))) := by
          rw [← List.drop_drop, hd, flatFr_cons, List.take_append, encF_len, List.take_of_length_le (by rw [encF_len]; omega), List.drop_append, encF_len, List.drop_of_length_le (by rw [encF_len]; omega)]
          rw [Nat.sub_self, List.drop_zero, List.nil_append]
          congr 1; omega
        rw [flatFr_cons, List.length_append, encF_len] at hl
        obtain ⟨j, E, h1, h2, h3, h4, h5⟩ := scan_cut s r (fuel - 1) (a + (f.2.size + 9)) (fun x hx => hg x (by simp [hx])) (by omega) (by omega) hd' (by omega)
        have hsz : ∀ j, a + sizesF ((f :: r).take (j + 1)) = a + (f.2.size + 9) + sizesF (r.take j) := fun j => by
          unfold sizesF
          rw [List.take_succ_cons, flatFr_cons, List.length_append, encF_len]; omega
        refine ⟨j + 1, E, by rw [List.length_cons]; omega, ?_, by rw [hsz]; exact h3, by rw [hsz]; exact h4, fun x hx => by rw [hsz]; exact h5 x (by simpa using hx)⟩
        rw [sg_ok hlt hf hD, h2, hsz, List.take_succ_cons]
        have : (((f.1.toNat : Nat) : Int), f.2) = f := by rw [show ((f.1.toNat : Nat) : Int) = f.1 from by omega]
        rw [this]
      · have hcut : (s.extract a s.size).data.toList = (encF f.1.toNat f.2).take (s.extract a s.size).size := by
          rw [hexd, hexs, flatFr_cons, List.take_append_of_le_length (by rw [encF_len]; omega)]
        have hD := dec_cut (K := f.1.toNat) (body := f.2) (by omega) (by omega) g3 (by rw [hexs]; omega) hcut
        refine ⟨0, 2, Nat.zero_le _, ?_, by show a + 0 ≤ _; omega, .inr ⟨rfl, by show a + 0 < _; omega⟩, fun x hx => ?_⟩
        · rw [sg_err hlt hf hD (by decide)]; rfl
        · simp at hx; subst hx; show s.size < a + 0 + _; omega
    · have : s.size = a := by omega
      refine ⟨0, 0, Nat.zero_le _, ?_, by show a + 0 ≤ _; omega, .inl ⟨rfl, by show a + 0 = _; omega⟩, fun x hx => ?_⟩
      · rw [sg_end (by omega)]; rfl
      · simp at hx; subst hx; show s.size < a + 0 + _; omega
theorem scan_torn (S : ByteArray) (l : List (Int × ByteArray)) (n : Nat) (hg : ∀ f ∈ l, goodF f) (hS : S.data.toList = flatFr l) (hn : n ≤ S.size) :
    ∃ j E, j ≤ l.length ∧ scanR (S.extract 0 n) = (l.take j, (sizesF (l.take j), E)) ∧ sizesF (l.take j) ≤ n ∧ (E = 0 ∧ sizesF (l.take j) = n ∨ E = 2 ∧ sizesF (l.take j) < n) ∧ (∀ f, l[j]? = some f → n < sizesF (l.take j) + (f.2.size + 9)) := by
  have hs := size_list S
  have hx : (S.extract 0 n).size = n := by rw [ByteArray.size_extract]; omega
  have hd : (S.extract 0 n).data.toList = (flatFr l).take n := by rw [extract_list, List.drop_zero, hS]; rfl
  have := scan_cut (S.extract 0 n) l (S.extract 0 n).size 0 hg (Nat.zero_le _) (by omega) (by rw [List.drop_zero, hd, hx]; rfl) (by rw [hx, ← hS, hs]; omega)
  obtain ⟨j, E, h1, h2, h3, h4, h5⟩ := this
  rw [Nat.zero_add, hx] at h3 h4
  rw [Nat.zero_add] at h2
  refine ⟨j, E, h1, h2, h3, h4, fun f hf => ?_⟩
  have := h5 f hf
  rw [Nat.zero_add, hx] at this
  exact this
end Go.Proofs.Ytlnekfdamdfelaa.FrMath
