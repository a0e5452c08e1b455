/- The whole: the name of a graph's file. -/
import Derived.Test.YtneheimdonlbbaaGreatDoorGc06
import Derived.Shelf.Lay
import Derived.Shelf.Strconv.Itoa3
import Derived.Shelf.LaysM
import Derived.Ground.Names2Prog
set_option linter.unusedVariables false
set_option linter.unusedSimpArgs false
namespace Go.Proofs.YtneheimdonlbbaaGreatDoor
open Go.RowKit Go.Shelf
def nameG (n : Nat) : ByteArray := ⟨#[103, 114, 97, 112, 104, 45]⟩ ++ ⟨(Lib.decDigits n).toArray⟩
def nmLays171_ren : Go.Shelf.Ren := ⟨fun | 171 => 131 | 243 => 174 | 246 => 198 | 283 => 215 | 284 => 216 | 285 => 217 | 286 => 218 | 129 => 149 | 317 => 226 | 318 => 227 | 319 => 228 | 320 => 229 | 337 => 234 | 338 => 235 | n => n, fun | 3 => 3 | 9 => 9 | 2 => 2 | 4 => 4 | 171 => 293 | 0 => 0 | 53 => 192 | 37 => 23 | 5 => 5 | 173 => 295 | 212 => 306 | 51 => 47 | 20 => 20 | 213 => 307 | 46 => 168 | 232 => 314 | 233 => 315 | n => n, fun | 17 => 2 | 18 => 4 | 19 => 5 | n => n⟩
theorem nmLays171 : Go.Proofs.Lays.n171 Tryz.prog nmLays171_ren where
  mixed := by kernel_rfl
  f129 := Tryz.func149.trans (congrArg some (by kernel_rfl))
  f171 := Tryz.func131.trans (congrArg some (by kernel_rfl))
  f243 := Tryz.func174.trans (congrArg some (by kernel_rfl))
  f246 := Tryz.func198.trans (congrArg some (by kernel_rfl))
  f283 := Tryz.func215.trans (congrArg some (by kernel_rfl))
  f284 := Tryz.func216.trans (congrArg some (by kernel_rfl))
  f285 := Tryz.func217.trans (congrArg some (by kernel_rfl))
  f286 := Tryz.func218.trans (congrArg some (by kernel_rfl))
  f317 := Tryz.func226.trans (congrArg some (by kernel_rfl))
  f318 := Tryz.func227.trans (congrArg some (by kernel_rfl))
  f319 := Tryz.func228.trans (congrArg some (by kernel_rfl))
  f320 := Tryz.func229.trans (congrArg some (by kernel_rfl))
  f337 := Tryz.func234.trans (congrArg some (by kernel_rfl))
  f338 := Tryz.func235.trans (congrArg some (by kernel_rfl))
  t0 := Tryz.underlying0
  a0 := Tryz.isAgg0
  z0 := Tryz.sizeOf0
  v0 := Tryz.zeroValue0
  t2 := Tryz.underlying2
  a2 := Tryz.isAgg2
  z2 := Tryz.sizeOf2
  v2 := Tryz.zeroValue2
  t3 := Tryz.underlying3
  a3 := Tryz.isAgg3
  z3 := Tryz.sizeOf3
  v3 := Tryz.zeroValue3
  t4 := Tryz.underlying4
  a4 := Tryz.isAgg4
  z4 := Tryz.sizeOf4
  v4 := Tryz.zeroValue4
  t5 := Tryz.underlying5
  a5 := Tryz.isAgg5
  z5 := Tryz.sizeOf5
  v5 := Tryz.zeroValue5
  t9 := Tryz.underlying9
  a9 := Tryz.isAgg9
  z9 := Tryz.sizeOf9
  v9 := Tryz.zeroValue9
  t20 := Tryz.underlying20
  a20 := Tryz.isAgg20
  z20 := Tryz.sizeOf20
  v20 := Tryz.zeroValue20
  t37 := Tryz.underlying23
  a37 := Tryz.isAgg23
  z37 := Tryz.sizeOf23
  v37 := Tryz.zeroValue23
  t46 := Tryz.underlying168
  a46 := Tryz.isAgg168
  z46 := Tryz.sizeOf168
  v46 := Tryz.zeroValue168
  t51 := Tryz.underlying47
  a51 := Tryz.isAgg47
  z51 := Tryz.sizeOf47
  v51 := Tryz.zeroValue47
  t53 := Tryz.underlying192
  a53 := Tryz.isAgg192
  z53 := Tryz.sizeOf192
  v53 := Tryz.zeroValue192
  t171 := Tryz.underlying293
  a171 := Tryz.isAgg293
  z171 := Tryz.sizeOf293
  v171 := Tryz.zeroValue293
  t173 := Tryz.underlying295
  a173 := Tryz.isAgg295
  z173 := Tryz.sizeOf295
  v173 := Tryz.zeroValue295
  t212 := Tryz.underlying306
  a212 := Tryz.isAgg306
  z212 := Tryz.sizeOf306
  v212 := Tryz.zeroValue306
  t213 := Tryz.underlying307
  a213 := Tryz.isAgg307
  z213 := Tryz.sizeOf307
  t232 := Tryz.underlying314
  a232 := Tryz.isAgg314
  z232 := Tryz.sizeOf314
  v232 := Tryz.zeroValue314
  t233 := Tryz.underlying315
  a233 := Tryz.isAgg315
  z233 := Tryz.sizeOf315
  v233 := Tryz.zeroValue315
  g17 := by kernel_rfl
  g18 := by kernel_rfl
  g19 := by kernel_rfl
theorem dec_two {n : Nat} (h : n < 100) : (Lib.decDigits n).length ≤ 2 := by
  by_cases h1 : n < 10
  · rw [Lib.decDigits_one h1]; simp
  · rw [Lib.decDigits_two h1 h]; simp
theorem dec_inj {m n : Nat} (hm : m < 100) (hn : n < 100) (h : Lib.decDigits m = Lib.decDigits n) : m = n := by
  have key : ∀ a b : Nat, a < 10 → b < 10 → UInt8.ofNat (48 + a) = UInt8.ofNat (48 + b) → a = b := by
    intro a b ha hb e
    have := congrArg UInt8.toNat e
    simp [UInt8.toNat_ofNat'] at this
    omega
  by_cases h1 : m < 10 <;> by_cases h2 : n < 10
  · rw [Lib.decDigits_one h1, Lib.decDigits_one h2] at h
    exact key m n h1 h2 (List.cons.inj h).1
  · rw [Lib.decDigits_one h1, Lib.decDigits_two h2 hn] at h
    exact absurd (congrArg List.length h) (by simp)
  · rw [Lib.decDigits_two h1 hm, Lib.decDigits_one h2] at h
    exact absurd (congrArg List.length h) (by simp)
  · rw [Lib.decDigits_two h1 hm, Lib.decDigits_two h2 hn] at h
    have e1 := key _ _ (by omega) (by omega) (List.cons.inj h).1
    have e2 := key _ _ (by omega) (by omega) (List.cons.inj (List.cons.inj h).2).1
    omega
theorem nameG_inj {m n : Nat} (hm : m < 100) (hn : n < 100) (h : nameG m = nameG n) : m = n := by
  apply dec_inj hm hn
  have := congrArg (fun x : ByteArray => x.data.toList) h
  simpa [nameG] using this
theorem nItoa (n : Nat) (h : n < 100) (w : World) : Calls Tryz.prog 131 #[.int .i64 n] w fun e w' => e = .returned (.string ⟨(Lib.decDigits n).toArray⟩) ∧ w' = w := Any.strconv_Itoa_small nmLays171 n h w
theorem nName (n : Nat) (h : n < 100) (w : World) : Calls Tryz.prog 84 #[.int .i64 n] w fun e w' => e = .returned (.string (nameG n)) ∧ w' = w := by
  have hsz : ¬ 9223372036854775807 < 6 + (Lib.decDigits n).length := by have := dec_two h; omega
  have HN := Lib.hid (fun W => lcNumbered n (by omega) W)
  have HI := Lib.hid (fun W => nItoa n h W)
  go_enter Tryz.func84, Tryz.ntmps84
  go_wp2_with fail
  (with_reducible refine (HN.out w).mono ?_)
  rintro e w1 ⟨rfl, rfl⟩
  go_wp2_with fail
  (with_reducible refine (HI.out w).mono ?_)
  rintro e w1 ⟨rfl, rfl⟩
  go_wp2
  go_ret
  exact ⟨rfl, rfl⟩
end Go.Proofs.YtneheimdonlbbaaGreatDoor
