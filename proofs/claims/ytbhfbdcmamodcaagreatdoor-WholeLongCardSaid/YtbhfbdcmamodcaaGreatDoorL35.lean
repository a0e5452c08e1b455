/- The whole: the name of a graph's file. -/
import Derived.Test.YtbhfbdcmamodcaaGreatDoorL05
import Derived.Shelf.Lay
import Derived.Shelf.Strconv.Itoa3
import Derived.Shelf.LaysM
import Derived.Ground.Names2Prog
set_option linter.unusedVariables false
set_option linter.unusedSimpArgs false
namespace Go.Proofs.YtbhfbdcmamodcaaGreatDoor
open Go.RowKit Go.Shelf
def nameG (n : Nat) : ByteArray := ⟨#[103, 114, 97, 112, 104, 45]⟩ ++ ⟨(Lib.decDigits n).toArray⟩
def nmLays171_ren : Go.Shelf.Ren := ⟨fun | 171 => 156 | 243 => 206 | 246 => 234 | 283 => 253 | 284 => 254 | 285 => 255 | 286 => 256 | 129 => 173 | 317 => 264 | 318 => 265 | 319 => 266 | 320 => 267 | 337 => 272 | 338 => 244 | n => n, fun | 3 => 3 | 9 => 9 | 2 => 2 | 4 => 4 | 171 => 353 | 0 => 0 | 53 => 197 | 37 => 23 | 5 => 5 | 173 => 355 | 212 => 367 | 51 => 47 | 20 => 20 | 213 => 368 | 46 => 192 | 232 => 375 | 233 => 363 | n => n, fun | 17 => 3 | 18 => 5 | 19 => 2 | n => n⟩
theorem nmLays171 : Go.Proofs.Lays.n171 Tryz.prog nmLays171_ren where
  mixed := by kernel_rfl
  f129 := Tryz.func173.trans (congrArg some (by kernel_rfl))
  f171 := Tryz.func156.trans (congrArg some (by kernel_rfl))
  f243 := Tryz.func206.trans (congrArg some (by kernel_rfl))
  f246 := Tryz.func234.trans (congrArg some (by kernel_rfl))
  f283 := Tryz.func253.trans (congrArg some (by kernel_rfl))
  f284 := Tryz.func254.trans (congrArg some (by kernel_rfl))
  f285 := Tryz.func255.trans (congrArg some (by kernel_rfl))
  f286 := Tryz.func256.trans (congrArg some (by kernel_rfl))
  f317 := Tryz.func264.trans (congrArg some (by kernel_rfl))
  f318 := Tryz.func265.trans (congrArg some (by kernel_rfl))
  f319 := Tryz.func266.trans (congrArg some (by kernel_rfl))
  f320 := Tryz.func267.trans (congrArg some (by kernel_rfl))
  f337 := Tryz.func272.trans (congrArg some (by kernel_rfl))
  f338 := Tryz.func244.trans (congrArg some (by kernel_rfl))
  t0 := Tryz.underlying0
  a0 := Tryz.isAgg0
  z0 := Tryz.sizeOf0
  v0 := Tryz.zeroValue0
  t2 := Tryz.underlying2
  a2 := Tryz.isAgg2
  z2 := Tryz.sizeOf2
  v2 := Tryz.zeroValue2
  t3 := Tryz.underlying3
  a3 := Tryz.isAgg3
  z3 := Tryz.sizeOf3
  v3 := Tryz.zeroValue3
  t4 := Tryz.underlying4
  a4 := Tryz.isAgg4
  z4 := Tryz.sizeOf4
  v4 := Tryz.zeroValue4
  t5 := Tryz.underlying5
  a5 := Tryz.isAgg5
  z5 := Tryz.sizeOf5
  v5 := Tryz.zeroValue5
  t9 := Tryz.underlying9
  a9 := Tryz.isAgg9
  z9 := Tryz.sizeOf9
  v9 := Tryz.zeroValue9
  t20 := Tryz.underlying20
  a20 := Tryz.isAgg20
  z20 := Tryz.sizeOf20
  v20 := Tryz.zeroValue20
  t37 := Tryz.underlying23
  a37 := Tryz.isAgg23
  z37 := Tryz.sizeOf23
  v37 := Tryz.zeroValue23
  t46 := Tryz.underlying192
  a46 := Tryz.isAgg192
  z46 := Tryz.sizeOf192
  v46 := Tryz.zeroValue192
  t51 := Tryz.underlying47
  a51 := Tryz.isAgg47
  z51 := Tryz.sizeOf47
  v51 := Tryz.zeroValue47
  t53 := Tryz.underlying197
  a53 := Tryz.isAgg197
  z53 := Tryz.sizeOf197
  v53 := Tryz.zeroValue197
  t171 := Tryz.underlying353
  a171 := Tryz.isAgg353
  z171 := Tryz.sizeOf353
  v171 := Tryz.zeroValue353
  t173 := Tryz.underlying355
  a173 := Tryz.isAgg355
  z173 := Tryz.sizeOf355
  v173 := Tryz.zeroValue355
  t212 := Tryz.underlying367
  a212 := Tryz.isAgg367
  z212 := Tryz.sizeOf367
  v212 := Tryz.zeroValue367
  t213 := Tryz.underlying368
  a213 := Tryz.isAgg368
  z213 := Tryz.sizeOf368
  t232 := Tryz.underlying375
  a232 := Tryz.isAgg375
  z232 := Tryz.sizeOf375
  v232 := Tryz.zeroValue375
  t233 := Tryz.underlying363
  a233 := Tryz.isAgg363
  z233 := Tryz.sizeOf363
  v233 := Tryz.zeroValue363
  g17 := by kernel_rfl
  g18 := by kernel_rfl
  g19 := by kernel_rfl
theorem dec_two {n : Nat} (h : n < 100) : (Lib.decDigits n).length ≤ 2 := by
  by_cases h1 : n < 10
  · rw [Lib.decDigits_one h1]; simp
  · rw [Lib.decDigits_two h1 h]; simp
theorem dec_inj {m n : Nat} (hm : m < 100) (hn : n < 100) (h : Lib.decDigits m = Lib.decDigits n) : m = n := by
  have key : ∀ a b : Nat, a < 10 → b < 10 → UInt8.ofNat (48 + a) = UInt8.ofNat (48 + b) → a = b := by
    intro a b ha hb e
    have := congrArg UInt8.toNat e
    simp [UInt8.toNat_ofNat'] at this
    omega
  by_cases h1 : m < 10 <;> by_cases h2 : n < 10
  · rw [Lib.decDigits_one h1, Lib.decDigits_one h2] at h
    exact key m n h1 h2 (List.cons.inj h).1
  · rw [Lib.decDigits_one h1, Lib.decDigits_two h2 hn] at h
    exact absurd (congrArg List.length h) (by simp)
  · rw [Lib.decDigits_two h1 hm, Lib.decDigits_one h2] at h
    exact absurd (congrArg List.length h) (by simp)
  · rw [Lib.decDigits_two h1 hm, Lib.decDigits_two h2 hn] at h
    have e1 := key _ _ (by omega) (by omega) (List.cons.inj h).1
    have e2 := key _ _ (by omega) (by omega) (List.cons.inj (List.cons.inj h).2).1
    omega
theorem nameG_inj {m n : Nat} (hm : m < 100) (hn : n < 100) (h : nameG m = nameG n) : m = n := by
  apply dec_inj hm hn
  have := congrArg (fun x : ByteArray => x.data.toList) h
  simpa [nameG] using this
theorem nItoa (n : Nat) (h : n < 100) (w : World) : Calls Tryz.prog 156 #[.int .i64 n] w fun e w' => e = .returned (.string ⟨(Lib.decDigits n).toArray⟩) ∧ w' = w := Any.strconv_Itoa_small nmLays171 n h w
theorem nName (n : Nat) (h : n < 100) (w : World) : Calls Tryz.prog 93 #[.int .i64 n] w fun e w' => e = .returned (.string (nameG n)) ∧ w' = w := by
  have hsz : ¬ 9223372036854775807 < 6 + (Lib.decDigits n).length := by have := dec_two h; omega
  have HN := Lib.hid (fun W => lcNumbered n (by omega) W)
  have HI := Lib.hid (fun W => nItoa n h W)
  go_enter Tryz.func93, Tryz.ntmps93
  go_wp2_with fail
  (with_reducible refine (HN.out w).mono ?_)
  rintro e w1 ⟨rfl, rfl⟩
  go_wp2_with fail
  (with_reducible refine (HI.out w).mono ?_)
  rintro e w1 ⟨rfl, rfl⟩
  go_wp2
  go_ret
  exact ⟨rfl, rfl⟩
end Go.Proofs.YtbhfbdcmamodcaaGreatDoor
