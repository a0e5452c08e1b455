/- Plain law of layer 9: what is wrong with a commit; its bytes. -/
import Derived.Test.YtmmabkppadokkaaPackMath
set_option linter.unusedVariables false
set_option linter.unusedSimpArgs false
namespace Go.Proofs.Ytmmabkppadokkaa.PackMath

/-- In range? -/
def inn (z : Int) : Bool := decide (0 ≤ z ∧ z < 65536)
def memB (z : Int) (zs : List Int) : Bool := decide (z ∈ zs)
theorem inn_yes {z : Int} (h : inn z = true) : 0 ≤ z ∧ z < 65536 := of_decide_eq_true h
theorem memB_yes {z : Int} {zs : List Int} (h : memB z zs = true) : z ∈ zs := of_decide_eq_true h
theorem memB_no {z : Int} {zs : List Int} (h : memB z zs = false) : z ∉ zs := of_decide_eq_false h

/-- The first thing that is wrong with the parents behind some. -/
def chkGo (pre : List Int) : List Int → Nat
  | [] => 0
  | z :: r => if inn z = false then 1 else if memB z pre = true then 11 else chkGo (pre ++ [z]) r
def checkR (t : Int) (zs : List Int) : Nat := if 16 < zs.length then 5 else if inn t = false then 1 else chkGo [] zs

theorem drop_at (zs : List Int) (k : Nat) (h : k < zs.length) : zs.drop k = zs[k] :: zs.drop (k + 1) := List.drop_eq_getElem_cons h
theorem take_at (zs : List Int) (k : Nat) (h : k < zs.length) : zs.take (k + 1) = zs.take k ++ [zs[k]] := by
  rw [List.take_succ_eq_append_getElem h]
theorem chk_in (zs : List Int) (k : Nat) (h : k < zs.length) (hi : inn zs[k] = false) : chkGo (zs.take k) (zs.drop k) = 1 := by
  rw [drop_at zs k h, chkGo, if_pos hi]
theorem chk_twice (zs : List Int) (k : Nat) (h : k < zs.length) (hi : inn zs[k] = true) (hm : memB zs[k] (zs.take k) = true) : chkGo (zs.take k) (zs.drop k) = 11 := by
  rw [drop_at zs k h, chkGo, if_neg (by rw [hi]; decide), if_pos hm]
theorem chk_on (zs : List Int) (k : Nat) (h : k < zs.length) (hi : inn zs[k] = true) (hm : memB zs[k] (zs.take k) = false) : chkGo (zs.take k) (zs.drop k) = chkGo (zs.take (k + 1)) (zs.drop (k + 1)) := by
  rw [drop_at zs k h, chkGo, if_neg (by rw [hi]; decide), if_neg (by rw [hm]; decide), take_at zs k h]
theorem chk_end (zs : List Int) (k : Nat) (h : zs.length ≤ k) : chkGo (zs.take k) (zs.drop k) = 0 := by
  rw [List.drop_of_length_le h, chkGo]
theorem check_long {t : Int} {zs : List Int} (h : 16 < zs.length) : checkR t zs = 5 := by unfold checkR; rw [if_pos h]
theorem check_tree {t : Int} {zs : List Int} (h : ¬ 16 < zs.length) (h2 : inn t = false) : checkR t zs = 1 := by unfold checkR; rw [if_neg h, if_pos h2]
theorem check_go {t : Int} {zs : List Int} (h : ¬ 16 < zs.length) (h2 : inn t = true) : checkR t zs = chkGo [] zs := by unfold checkR; rw [if_neg h, if_neg (by rw [h2]; decide)]

theorem chkGo_ok (pre zs : List Int) (h : chkGo pre zs = 0) : ∀ z ∈ zs, inn z = true := by
  induction zs generalizing pre with
  | nil => intro z hz; cases hz
  | cons x r ih =>
    intro z hz
    rw [chkGo] at h
    by_cases h1 : inn x = false
    · rw [if_pos h1] at h; cases h
    · rw [if_neg h1] at h
      by_cases h2 : memB x pre = true
      · rw [if_pos h2] at h; cases h
      · rw [if_neg h2] at h
        rcases List.mem_cons.1 hz with rfl | hz
        · simpa using h1
        · exact ih _ h z hz
theorem check_ok {t : Int} {zs : List Int} (h : checkR t zs = 0) : zs.length ≤ 16 ∧ inn t = true ∧ (∀ z ∈ zs, inn z = true) := by
  unfold checkR at h
  by_cases h1 : 16 < zs.length
  · rw [if_pos h1] at h; cases h
  · rw [if_neg h1] at h
    by_cases h2 : inn t = false
    · rw [if_pos h2] at h; cases h
    · rw [if_neg h2] at h
      exact ⟨by omega, by simpa using h2, chkGo_ok _ _ h⟩

/-- A commit's bytes. -/
def encC (t : Int) (zs : List Int) : List UInt8 := be t.toNat 4 ++ be zs.length 1 ++ zs.flatMap fun z => be z.toNat 4
theorem encC_take (zs : List Int) (k : Nat) (h : k < zs.length) : (zs.take (k + 1)).flatMap (fun z => be z.toNat 4) = (zs.take k).flatMap (fun z => be z.toNat 4) ++ be zs[k].toNat 4 := by
  rw [take_at zs k h, List.flatMap_append]; simp
theorem flat_len (zs : List Int) : (zs.flatMap fun z => be z.toNat 4).length = 4 * zs.length := by
  induction zs with
  | nil => rfl
  | cons x r ih => rw [List.flatMap_cons, List.length_append, ih, be_length, List.length_cons]; omega
theorem encC_len (t : Int) (zs : List Int) : (encC t zs).length = 5 + 4 * zs.length := by
  unfold encC
  rw [List.length_append, List.length_append, be_length, be_length, flat_len]
end Go.Proofs.Ytmmabkppadokkaa.PackMath
