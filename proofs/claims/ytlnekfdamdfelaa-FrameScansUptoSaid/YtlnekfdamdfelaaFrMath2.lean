/- Plain law of layer 7: what bytes are read as. -/
import Derived.Test.YtlnekfdamdfelaaFrMath
import Derived.Test.YtlnekfdamdfelaaNumMath
set_option linter.unusedVariables false
set_option linter.unusedSimpArgs false
namespace Go.Proofs.Ytlnekfdamdfelaa.FrMath
open PackMath SumMath

/-- The error; the kind, the body, how many bytes: by the readings one behind the other. -/
def decP (s : ByteArray) : Nat × (Nat × (ByteArray × Nat)) :=
  let A := numR s 0 0 1
  let B := numR s A.2.1 A.2.2 4
  let C := rawR s B.2.1 B.2.2 B.1.1
  let D := numR s C.2.1 C.2.2 4
  if A.1.2 = 0 ∧ A.1.1 = 0 then (3, (0, (⟨#[]⟩, 0)))
  else if B.1.2 ≠ 0 then (B.1.2, (0, (⟨#[]⟩, 0)))
  else if 1048576 < B.1.1 then (3, (0, (⟨#[]⟩, 0)))
  else if D.1.2 ≠ 0 then (D.1.2, (0, (⟨#[]⟩, 0)))
  else if D.1.1 ≠ crc (s.extract 0 (D.2.1 - 4)).data.toList then (4, (0, (⟨#[]⟩, 0)))
  else (0, (A.1.1, (C.1.1, D.2.1)))

section
variable {s b : ByteArray} {k f0 a1 e1 n f1 a2 e2 f2 a3 e3 c f3 a4 e4 : Nat}
  (h0 : numR s 0 0 1 = ((k, f0), (a1, e1))) (h1 : numR s a1 e1 4 = ((n, f1), (a2, e2))) (h2 : rawR s a2 e2 n = ((b, f2), (a3, e3))) (h3 : numR s a3 e3 4 = ((c, f3), (a4, e4)))
include h0 in
theorem dp_zero (hA : f0 = 0 ∧ k = 0) : decP s = (3, (0, (⟨#[]⟩, 0))) := by
  unfold decP; simp only [h0]; rw [if_pos hA]
include h0 h1 in
theorem dp_len (hA : ¬ (f0 = 0 ∧ k = 0)) (hB : f1 ≠ 0) : decP s = (f1, (0, (⟨#[]⟩, 0))) := by
  unfold decP; simp only [h0, h1]; rw [if_neg hA, if_pos hB]
include h0 h1 in
theorem dp_great (hA : ¬ (f0 = 0 ∧ k = 0)) (hB : f1 = 0) (hC : 1048576 < n) : decP s = (3, (0, (⟨#[]⟩, 0))) := by
  unfold decP; simp only [h0, h1]; rw [if_neg hA, if_neg (by simpa using hB), if_pos hC]
include h0 h1 h2 h3 in
theorem dp_short (hA : ¬ (f0 = 0 ∧ k = 0)) (hB : f1 = 0) (hC : ¬ 1048576 < n) (hD : f3 ≠ 0) : decP s = (f3, (0, (⟨#[]⟩, 0))) := by
  unfold decP; simp only [h0, h1, h2, h3]; rw [if_neg hA, if_neg (by simpa using hB), if_neg hC, if_pos hD]
include h0 h1 h2 h3 in
theorem dp_sum (hA : ¬ (f0 = 0 ∧ k = 0)) (hB : f1 = 0) (hC : ¬ 1048576 < n) (hD : f3 = 0) (hE : c ≠ crc (s.extract 0 (a4 - 4)).data.toList) : decP s = (4, (0, (⟨#[]⟩, 0))) := by
  unfold decP; simp only [h0, h1, h2, h3]; rw [if_neg hA, if_neg (by simpa using hB), if_neg hC, if_neg (by simpa using hD), if_pos hE]
include h0 h1 h2 h3 in
theorem dp_ok (hA : ¬ (f0 = 0 ∧ k = 0)) (hB : f1 = 0) (hC : ¬ 1048576 < n) (hD : f3 = 0) (hE : c = crc (s.extract 0 (a4 - 4)).data.toList) : decP s = (0, (k, (b, a4))) := by
  unfold decP; simp only [h0, h1, h2, h3]; rw [if_neg hA, if_neg (by simpa using hB), if_neg hC, if_neg (by simpa using hD), if_neg (by simpa using hE)]
include h3 in
theorem dp_end (hD : f3 = 0) : 4 ≤ a4 ∧ a4 ≤ s.size := by
  subst hD
  by_cases he : e3 = 0
  · subst he
    by_cases hn : s.size - a3 < 4
    · rw [numR_short hn] at h3
      simp at h3
    · rw [numR_ok (by omega)] at h3
      simp only [Prod.mk.injEq] at h3
      omega
  · rw [numR_err he] at h3
    simp only [Prod.mk.injEq] at h3
    exact absurd h3.1.2 he
end

/-- A frame that stands at the front is read as it was told. -/
theorem dec_frame {s : ByteArray} {K : Nat} {body : ByteArray} {post : List UInt8} (hK : 1 ≤ K) (hK2 : K ≤ 255) (hl : body.size ≤ 1048576) (h : s.data.toList = encF K body ++ post) : decP s = (0, (K, (body, body.size + 9))) := by
  have hbl : body.data.toList.length = body.size := by simp
  have hcl := crc_lt (headF K body)
  have e0 : s.data.toList = [] ++ (be K 1 ++ (be body.size 4 ++ (body.data.toList ++ (be (crc (headF K body)) 4 ++ post)))) := by
    rw [h, encF]; conv => lhs; lhs; lhs; unfold headF
    simp
  have e1 : s.data.toList = be K 1 ++ (be body.size 4 ++ (body.data.toList ++ (be (crc (headF K body)) 4 ++ post))) := e0
  have e2 : s.data.toList = (be K 1 ++ be body.size 4) ++ (body.data.toList ++ (be (crc (headF K body)) 4 ++ post)) := by rw [e1]; simp
  have e3 : s.data.toList = headF K body ++ (be (crc (headF K body)) 4 ++ post) := by rw [e2]; unfold headF; simp
  have hsz : s.size = body.size + 9 + post.length := by
    have h1 := congrArg List.length h
    rw [size_list, List.length_append, encF_len] at h1
    exact h1
  have n0 := numR_at e0 (k := 0) rfl (show K < 256 ^ 1 by have : (256 : Nat) ^ 1 = 256 := rfl; omega)
  have n1 := numR_at e1 (k := 1) (be_length _ _) (show body.size < 256 ^ 4 by have : (256 : Nat) ^ 4 = 4294967296 := rfl; omega)
  have hraw : rawR s 5 0 (body.size : Int) = ((s.extract 5 (5 + body.size), 0), (5 + body.size, 0)) := rawR_ok (by omega)
  have hex : s.extract 5 (5 + body.size) = body := by
    have : (s.extract 5 (5 + body.size)).data.toList = body.data.toList := by
      rw [extract_list, show 5 + body.size - 5 = body.size from by omega, drop_pre e2 (by rw [List.length_append, be_length, be_length]), List.take_append_of_le_length (by omega), List.take_of_length_le (by omega)]
    cases hb : s.extract 5 (5 + body.size) with | mk d => cases body with | mk d2 => rw [hb] at this; simp only [ByteArray.mk.injEq]; exact Array.toList_inj.1 this
  have n3 := numR_at e3 (k := 5 + body.size) (by rw [headF_len]; omega) (show crc (headF K body) < 256 ^ 4 from hcl)
  refine dp_ok n0 n1 hraw n3 (by omega) rfl (by omega) rfl ?_ |>.trans ?_
  · rw [extract_list, List.drop_zero, e3, List.take_append_of_le_length (by rw [headF_len]; omega), List.take_of_length_le (by rw [headF_len]; omega)]
  · rw [hex, show 5 + body.size + 4 = body.size + 9 from by omega]
end Go.Proofs.Ytlnekfdamdfelaa.FrMath
