/- Plain facts of layer 8: what bytes are read as. -/
import Derived.Test.YtdjpmgkcgpkkmaaTrAl
import Derived.Test.YtdjpmgkcgpkkmaaRdMath3
set_option linter.unusedVariables false
set_option linter.unusedSimpArgs false
namespace Go.Proofs.Ytdjpmgkcgpkkmaa
open PackMath TrMath

/-- An entry as it is read behind a path: the error, else the path, the blob, and where the reader stands. -/
def entR (s : ByteArray) (first : Bool) (last : ByteArray) (a e : Nat) : Nat × ((ByteArray × Nat) × (Nat × Nat)) :=
  let N := numR s a e 1
  if N.1.2 = 0 ∧ last.size < N.1.1 then (3, ((⟨#[]⟩, 0), (0, 0))) else
  let K := numR s N.2.1 N.2.2 1
  let R := rawR s K.2.1 K.2.2 K.1.1
  if R.1.2 ≠ 0 then (R.1.2, ((⟨#[]⟩, 0), (0, 0))) else
  if 255 < (last.extract 0 N.1.1 ++ R.1.1).size ∨ alkB last (last.extract 0 N.1.1 ++ R.1.1) ≠ N.1.1 ∨ (first = false ∧ ltB last (last.extract 0 N.1.1 ++ R.1.1) = false) then (3, ((⟨#[]⟩, 0), (0, 0))) else
  let B := numR s R.2.1 R.2.2 4
  if B.1.2 ≠ 0 then (B.1.2, ((⟨#[]⟩, 0), (0, 0))) else if B.1.1 = 0 then (3, ((⟨#[]⟩, 0), (0, 0))) else (0, ((last.extract 0 N.1.1 ++ R.1.1, B.1.1), B.2))
section
variable {s last t : ByteArray} {first : Bool} {a e n f a1 e1 k f1 a2 e2 g a3 e3 x h a4 e4 : Nat}
theorem ent_1 (hN : numR s a e 1 = ((n, f), (a1, e1))) (c : f = 0 ∧ last.size < n) : (entR s first last a e).1 = 3 := by
  unfold entR; simp only [hN]; rw [if_pos c]
theorem ent_2 (hN : numR s a e 1 = ((n, f), (a1, e1))) (c : ¬ (f = 0 ∧ last.size < n)) (hK : numR s a1 e1 1 = ((k, f1), (a2, e2))) (hR : rawR s a2 e2 k = ((t, g), (a3, e3))) (hg : g ≠ 0) : (entR s first last a e).1 = g := by
  unfold entR; simp only [hN, hK, hR]; rw [if_neg c, if_pos hg]
theorem ent_3 (hN : numR s a e 1 = ((n, f), (a1, e1))) (c : ¬ (f = 0 ∧ last.size < n)) (hK : numR s a1 e1 1 = ((k, f1), (a2, e2))) (hR : rawR s a2 e2 k = ((t, g), (a3, e3))) (hg : g = 0)
    (hb : 255 < (last.extract 0 n ++ t).size ∨ alkB last (last.extract 0 n ++ t) ≠ n ∨ (first = false ∧ ltB last (last.extract 0 n ++ t) = false)) : (entR s first last a e).1 = 3 := by
  unfold entR; simp only [hN, hK, hR]; rw [if_neg c, if_neg (by rw [hg]; simp), if_pos hb]
theorem ent_4 (hN : numR s a e 1 = ((n, f), (a1, e1))) (c : ¬ (f = 0 ∧ last.size < n)) (hK : numR s a1 e1 1 = ((k, f1), (a2, e2))) (hR : rawR s a2 e2 k = ((t, g), (a3, e3))) (hg : g = 0)
    (hb : ¬ (255 < (last.extract 0 n ++ t).size ∨ alkB last (last.extract 0 n ++ t) ≠ n ∨ (first = false ∧ ltB last (last.extract 0 n ++ t) = false))) (hB : numR s a3 e3 4 = ((x, h), (a4, e4))) (hh : h ≠ 0) : (entR s first last a e).1 = h := by
  unfold entR; simp only [hN, hK, hR, hB]; rw [if_neg c, if_neg (by rw [hg]; simp), if_neg hb, if_pos hh]
theorem ent_5 (hN : numR s a e 1 = ((n, f), (a1, e1))) (c : ¬ (f = 0 ∧ last.size < n)) (hK : numR s a1 e1 1 = ((k, f1), (a2, e2))) (hR : rawR s a2 e2 k = ((t, g), (a3, e3))) (hg : g = 0)
    (hb : ¬ (255 < (last.extract 0 n ++ t).size ∨ alkB last (last.extract 0 n ++ t) ≠ n ∨ (first = false ∧ ltB last (last.extract 0 n ++ t) = false))) (hB : numR s a3 e3 4 = ((x, h), (a4, e4))) (hh : h = 0) (hx : x = 0) : (entR s first last a e).1 = 3 := by
  unfold entR; simp only [hN, hK, hR, hB]; rw [if_neg c, if_neg (by rw [hg]; simp), if_neg hb, if_neg (by rw [hh]; simp), if_pos hx]
theorem ent_6 (hN : numR s a e 1 = ((n, f), (a1, e1))) (c : ¬ (f = 0 ∧ last.size < n)) (hK : numR s a1 e1 1 = ((k, f1), (a2, e2))) (hR : rawR s a2 e2 k = ((t, g), (a3, e3))) (hg : g = 0)
    (hb : ¬ (255 < (last.extract 0 n ++ t).size ∨ alkB last (last.extract 0 n ++ t) ≠ n ∨ (first = false ∧ ltB last (last.extract 0 n ++ t) = false))) (hB : numR s a3 e3 4 = ((x, h), (a4, e4))) (hh : h = 0) (hx : x ≠ 0) : entR s first last a e = (0, ((last.extract 0 n ++ t, x), (a4, e4))) := by
  unfold entR; simp only [hN, hK, hR, hB]; rw [if_neg c, if_neg (by rw [hg]; simp), if_neg hb, if_neg (by rw [hh]; simp), if_neg hx]
/-- An error stays: what is read behind it is not read. -/
theorem stick (hN : numR s a e 1 = ((n, f), (a1, e1))) (hK : numR s a1 e1 1 = ((k, f1), (a2, e2))) (hR : rawR s a2 e2 k = ((t, g), (a3, e3))) (hg : g = 0) : f = 0 := by
  have num_f : ∀ {a e n v f b g : Nat}, numR s a e n = ((v, f), (b, g)) → g = f := by
    intro a e n v f b g h
    unfold numR at h
    split at h
    · cases h; rfl
    · split at h <;> (cases h; rfl)
  have num_e : ∀ {a e n v f b g : Nat}, numR s a e n = ((v, f), (b, g)) → f = 0 → e = 0 := by
    intro a e n v f b g h hf
    by_cases he : e = 0
    · exact he
    · rw [numR_err he] at h; cases h; exact hf
  have raw_e : e2 = 0 := by
    by_cases he : e2 = 0
    · exact he
    · rw [rawR_err he] at hR; cases hR; exact hg
  have h1 : f1 = 0 := by rw [← num_f hK]; exact raw_e
  have h2 : e1 = 0 := num_e hK h1
  rw [← num_f hN]; exact h2
end
/-- The entries that are still to come. -/
def decGo (s : ByteArray) : Nat → Bool → ByteArray → Nat → Nat → Nat × Ents
  | 0, _, _, a, e => (endR s a e, [])
  | r + 1, first, last, a, e =>
    let E := entR s first last a e
    if E.1 ≠ 0 then (E.1, []) else let D := decGo s r false E.2.1.1 E.2.2.1 E.2.2.2; (D.1, (E.2.1.1, (E.2.1.2 : Int)) :: D.2)
theorem decGo_err {s last : ByteArray} {r a e E : Nat} {first : Bool} (h : (entR s first last a e).1 = E) (hE : E ≠ 0) : decGo s (r + 1) first last a e = (E, []) := by
  unfold decGo; simp only [h]; rw [if_pos hE]
theorem decGo_ok {s last P : ByteArray} {r a e X b g : Nat} {first : Bool} (h : entR s first last a e = (0, ((P, X), (b, g)))) : decGo s (r + 1) first last a e = ((decGo s r false P b g).1, (P, (X : Int)) :: (decGo s r false P b g).2) := by
  rw [decGo]; simp only [h]; rw [if_neg (by simp)]
/-- What a text is read as: the error, and the tree if there is none. -/
def decE (s : ByteArray) : Nat := if (numR s 0 0 2).1.2 = 0 then (if 1024 < (numR s 0 0 2).1.1 then 3 else (decGo s (numR s 0 0 2).1.1 true ⟨#[]⟩ (numR s 0 0 2).2.1 (numR s 0 0 2).2.2).1) else (numR s 0 0 2).1.2
def decT (s : ByteArray) : Ents := if decE s = 0 then (decGo s (numR s 0 0 2).1.1 true ⟨#[]⟩ (numR s 0 0 2).2.1 (numR s 0 0 2).2.2).2 else []
section
variable {s : ByteArray} {c f a e : Nat}
theorem dec_1 (h : numR s 0 0 2 = ((c, f), (a, e))) (hf : f ≠ 0) : decE s = f := by unfold decE; simp only [h]; rw [if_neg hf]
theorem dec_2 (h : numR s 0 0 2 = ((c, f), (a, e))) (hf : f = 0) (hc : 1024 < c) : decE s = 3 := by unfold decE; simp only [h]; rw [if_pos hf, if_pos hc]
theorem dec_3 (h : numR s 0 0 2 = ((c, f), (a, e))) (hf : f = 0) (hc : ¬ 1024 < c) : decE s = (decGo s c true ⟨#[]⟩ a e).1 ∧ (decE s = 0 → decT s = (decGo s c true ⟨#[]⟩ a e).2) := by
  have h1 : decE s = (decGo s c true ⟨#[]⟩ a e).1 := by unfold decE; simp only [h]; rw [if_pos hf, if_neg hc]
  exact ⟨h1, fun h0 => by unfold decT; rw [if_pos h0]; simp only [h]⟩
theorem decT_err (h : decE s ≠ 0) : decT s = [] := by unfold decT; rw [if_neg h]
end
end Go.Proofs.Ytdjpmgkcgpkkmaa
