/- The whole: the name of a graph's file. -/
import Derived.Test.YtneheimdonlbbaaGreatDoorGc06
import Derived.Shelf.Lay
import Derived.Shelf.Strconv.Itoa3
import Derived.Shelf.LaysM
import Derived.Ground.Names2Prog
set_option linter.unusedVariables false
set_option linter.unusedSimpArgs false
namespace Go.Proofs.YtneheimdonlbbaaGreatDoor
open Go.RowKit Go.Shelf
def nameG (n : Nat) : ByteArray := ⟨#[103, 114, 97, 112, 104, 45]⟩ ++ ⟨(Lib.decDigits n).toArray⟩
shelf_lay Lays.n171 Nm 171 at Tryz as nmLays171
theorem dec_two {n : Nat} (h : n < 100) : (Lib.decDigits n).length ≤ 2 := by
  by_cases h1 : n < 10
  · rw [Lib.decDigits_one h1]; simp
  · rw [Lib.decDigits_two h1 h]; simp
theorem dec_inj {m n : Nat} (hm : m < 100) (hn : n < 100) (h : Lib.decDigits m = Lib.decDigits n) : m = n := by
  have key : ∀ a b : Nat, a < 10 → b < 10 → UInt8.ofNat (48 + a) = UInt8.ofNat (48 + b) → a = b := by
    intro a b ha hb e
    have := congrArg UInt8.toNat e
    simp [UInt8.toNat_ofNat'] at this
    omega
  by_cases h1 : m < 10 <;> by_cases h2 : n < 10
  · rw [Lib.decDigits_one h1, Lib.decDigits_one h2] at h
    exact key m n h1 h2 (List.cons.inj h).1
  · rw [Lib.decDigits_one h1, Lib.decDigits_two h2 hn] at h
    exact absurd (congrArg List.length h) (by simp)
  · rw [Lib.decDigits_two h1 hm, Lib.decDigits_one h2] at h
    exact absurd (congrArg List.length h) (by simp)
  · rw [Lib.decDigits_two h1 hm, Lib.decDigits_two h2 hn] at h
    have e1 := key _ _ (by omega) (by omega) (List.cons.inj h).1
    have e2 := key _ _ (by omega) (by omega) (List.cons.inj (List.cons.inj h).2).1
    omega
theorem nameG_inj {m n : Nat} (hm : m < 100) (hn : n < 100) (h : nameG m = nameG n) : m = n := by
  apply dec_inj hm hn
  have := congrArg (fun x : ByteArray => x.data.toList) h
  simpa [nameG] using this
theorem nItoa (n : Nat) (h : n < 100) (w : World) : Calls Tryz.prog 131 #[.int .i64 n] w fun e w' => e = .returned (.string ⟨(Lib.decDigits n).toArray⟩) ∧ w' = w := Any.strconv_Itoa_small nmLays171 n h w
theorem nName (n : Nat) (h : n < 100) (w : World) : Calls Tryz.prog 84 #[.int .i64 n] w fun e w' => e = .returned (.string (nameG n)) ∧ w' = w := by
  have hsz : ¬ 9223372036854775807 < 6 + (Lib.decDigits n).length := by have := dec_two h; omega
  have HN := Lib.hid (fun W => lcNumbered n (by omega) W)
  have HI := Lib.hid (fun W => nItoa n h W)
  go_enter Tryz.func84, Tryz.ntmps84
  go_wp2_with fail
  (with_reducible refine (HN.out w).mono ?_)
  rintro e w1 ⟨rfl, rfl⟩
  go_wp2_with fail
  (with_reducible refine (HI.out w).mono ?_)
  rintro e w1 ⟨rfl, rfl⟩
  go_wp2
  go_ret
  exact ⟨rfl, rfl⟩
end Go.Proofs.YtneheimdonlbbaaGreatDoor
