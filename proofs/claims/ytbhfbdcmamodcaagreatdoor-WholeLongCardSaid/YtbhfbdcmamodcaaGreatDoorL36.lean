/- The whole: the number of a graph's file's name; The whole: a name that is no graph's file's. -/
import Derived.Test.YtbhfbdcmamodcaaGreatDoorL35
import Derived.Shelf.Small.Wraps
import Derived.Shelf.Strconv.Atoi
import Derived.Shelf.Strconv.AtoiErr
set_option linter.unusedVariables false
set_option linter.unusedSimpArgs false
namespace Go.Proofs.YtbhfbdcmamodcaaGreatDoor
open Go.RowKit Go.Shelf
def nmLays103_ren : Go.Shelf.Ren := ⟨fun | 103 => 158 | 210 => 207 | 206 => 187 | n => n, fun | 9 => 9 | 4 => 4 | 24 => 249 | 3 => 3 | n => n, fun | n => n⟩
theorem nmLays103 : Go.Proofs.Lays.n103 Tryz.prog nmLays103_ren where
  mixed := by kernel_rfl
  f103 := Tryz.func158.trans (congrArg some (by kernel_rfl))
  f206 := Tryz.func187.trans (congrArg some (by kernel_rfl))
  f210 := Tryz.func207.trans (congrArg some (by kernel_rfl))
  t3 := Tryz.underlying3
  a3 := Tryz.isAgg3
  z3 := Tryz.sizeOf3
  v3 := Tryz.zeroValue3
  t4 := Tryz.underlying4
  a4 := Tryz.isAgg4
  z4 := Tryz.sizeOf4
  v4 := Tryz.zeroValue4
  t9 := Tryz.underlying9
  a9 := Tryz.isAgg9
  z9 := Tryz.sizeOf9
  v9 := Tryz.zeroValue9
  t24 := Tryz.underlying249
  a24 := Tryz.isAgg249
  z24 := Tryz.sizeOf249
  v24 := Tryz.zeroValue249
def nmLays172_ren : Go.Shelf.Ren := ⟨fun | 172 => 159 | 244 => 208 | 245 => 209 | 247 => 235 | 279 => 236 | 280 => 237 | 281 => 238 | 282 => 239 | 287 => 257 | 316 => 258 | 171 => 156 | 205 => 259 | 321 => 268 | 322 => 269 | 243 => 206 | 246 => 234 | 283 => 253 | 284 => 254 | 285 => 255 | 286 => 256 | 129 => 173 | 317 => 264 | 318 => 265 | 319 => 266 | 320 => 267 | 337 => 272 | 338 => 244 | n => n, fun | 9 => 9 | 3 => 3 | 75 => 252 | 76 => 253 | 4 => 4 | 5 => 5 | 167 => 337 | 37 => 23 | 0 => 0 | 85 => 338 | 2 => 2 | 168 => 340 | 53 => 197 | 175 => 357 | 46 => 192 | 210 => 361 | 127 => 370 | 145 => 373 | 143 => 371 | 21 => 21 | 171 => 353 | 173 => 355 | 212 => 367 | 51 => 47 | 20 => 20 | 213 => 368 | 232 => 375 | 233 => 363 | 80 => 160 | n => n, fun | 15 => 0 | 16 => 1 | 17 => 3 | 18 => 5 | 19 => 2 | n => n⟩
theorem nmLays172 : Go.Proofs.Lays.n172 Tryz.prog nmLays172_ren where
  mixed := by kernel_rfl
  f129 := Tryz.func173.trans (congrArg some (by kernel_rfl))
  f171 := Tryz.func156.trans (congrArg some (by kernel_rfl))
  f172 := Tryz.func159.trans (congrArg some (by kernel_rfl))
  f205 := Tryz.func259.trans (congrArg some (by kernel_rfl))
  f243 := Tryz.func206.trans (congrArg some (by kernel_rfl))
  f244 := Tryz.func208.trans (congrArg some (by kernel_rfl))
  f245 := Tryz.func209.trans (congrArg some (by kernel_rfl))
  f246 := Tryz.func234.trans (congrArg some (by kernel_rfl))
  f247 := Tryz.func235.trans (congrArg some (by kernel_rfl))
  f279 := Tryz.func236.trans (congrArg some (by kernel_rfl))
  f280 := Tryz.func237.trans (congrArg some (by kernel_rfl))
  f281 := Tryz.func238.trans (congrArg some (by kernel_rfl))
  f282 := Tryz.func239.trans (congrArg some (by kernel_rfl))
  f283 := Tryz.func253.trans (congrArg some (by kernel_rfl))
  f284 := Tryz.func254.trans (congrArg some (by kernel_rfl))
  f285 := Tryz.func255.trans (congrArg some (by kernel_rfl))
  f286 := Tryz.func256.trans (congrArg some (by kernel_rfl))
  f287 := Tryz.func257.trans (congrArg some (by kernel_rfl))
  f316 := Tryz.func258.trans (congrArg some (by kernel_rfl))
  f317 := Tryz.func264.trans (congrArg some (by kernel_rfl))
  f318 := Tryz.func265.trans (congrArg some (by kernel_rfl))
  f319 := Tryz.func266.trans (congrArg some (by kernel_rfl))
  f320 := Tryz.func267.trans (congrArg some (by kernel_rfl))
  f321 := Tryz.func268.trans (congrArg some (by kernel_rfl))
  f322 := Tryz.func269.trans (congrArg some (by kernel_rfl))
  f337 := Tryz.func272.trans (congrArg some (by kernel_rfl))
  f338 := Tryz.func244.trans (congrArg some (by kernel_rfl))
  t0 := Tryz.underlying0
  a0 := Tryz.isAgg0
  z0 := Tryz.sizeOf0
  v0 := Tryz.zeroValue0
  t2 := Tryz.underlying2
  a2 := Tryz.isAgg2
  z2 := Tryz.sizeOf2
  v2 := Tryz.zeroValue2
  t3 := Tryz.underlying3
  a3 := Tryz.isAgg3
  z3 := Tryz.sizeOf3
  v3 := Tryz.zeroValue3
  t4 := Tryz.underlying4
  a4 := Tryz.isAgg4
  z4 := Tryz.sizeOf4
  v4 := Tryz.zeroValue4
  t5 := Tryz.underlying5
  a5 := Tryz.isAgg5
  z5 := Tryz.sizeOf5
  v5 := Tryz.zeroValue5
  t9 := Tryz.underlying9
  a9 := Tryz.isAgg9
  z9 := Tryz.sizeOf9
  v9 := Tryz.zeroValue9
  t20 := Tryz.underlying20
  a20 := Tryz.isAgg20
  z20 := Tryz.sizeOf20
  v20 := Tryz.zeroValue20
  t21 := Tryz.underlying21
  a21 := Tryz.isAgg21
  z21 := Tryz.sizeOf21
  v21 := Tryz.zeroValue21
  t37 := Tryz.underlying23
  a37 := Tryz.isAgg23
  z37 := Tryz.sizeOf23
  v37 := Tryz.zeroValue23
  t46 := Tryz.underlying192
  a46 := Tryz.isAgg192
  z46 := Tryz.sizeOf192
  v46 := Tryz.zeroValue192
  t51 := Tryz.underlying47
  a51 := Tryz.isAgg47
  z51 := Tryz.sizeOf47
  v51 := Tryz.zeroValue47
  t53 := Tryz.underlying197
  a53 := Tryz.isAgg197
  z53 := Tryz.sizeOf197
  v53 := Tryz.zeroValue197
  t75 := Tryz.underlying252
  a75 := Tryz.isAgg252
  z75 := Tryz.sizeOf252
  v75 := Tryz.zeroValue252
  t76 := Tryz.underlying253
  a76 := Tryz.isAgg253
  z76 := Tryz.sizeOf253
  v76 := Tryz.zeroValue253
  t85 := Tryz.underlying338
  a85 := Tryz.isAgg338
  z85 := Tryz.sizeOf338
  v85 := Tryz.zeroValue338
  t127 := Tryz.underlying370
  a127 := Tryz.isAgg370
  z127 := Tryz.sizeOf370
  v127 := Tryz.zeroValue370
  t143 := Tryz.underlying371
  a143 := Tryz.isAgg371
  z143 := Tryz.sizeOf371
  v143 := Tryz.zeroValue371
  t145 := Tryz.underlying373
  a145 := Tryz.isAgg373
  z145 := Tryz.sizeOf373
  v145 := Tryz.zeroValue373
  t167 := Tryz.underlying337
  a167 := Tryz.isAgg337
  z167 := Tryz.sizeOf337
  v167 := Tryz.zeroValue337
  t168 := Tryz.underlying340
  a168 := Tryz.isAgg340
  z168 := Tryz.sizeOf340
  v168 := Tryz.zeroValue340
  t171 := Tryz.underlying353
  a171 := Tryz.isAgg353
  z171 := Tryz.sizeOf353
  v171 := Tryz.zeroValue353
  t173 := Tryz.underlying355
  a173 := Tryz.isAgg355
  z173 := Tryz.sizeOf355
  v173 := Tryz.zeroValue355
  t175 := Tryz.underlying357
  a175 := Tryz.isAgg357
  z175 := Tryz.sizeOf357
  v175 := Tryz.zeroValue357
  t210 := Tryz.underlying361
  a210 := Tryz.isAgg361
  z210 := Tryz.sizeOf361
  v210 := Tryz.zeroValue361
  t212 := Tryz.underlying367
  a212 := Tryz.isAgg367
  z212 := Tryz.sizeOf367
  v212 := Tryz.zeroValue367
  t213 := Tryz.underlying368
  a213 := Tryz.isAgg368
  z213 := Tryz.sizeOf368
  t232 := Tryz.underlying375
  a232 := Tryz.isAgg375
  z232 := Tryz.sizeOf375
  v232 := Tryz.zeroValue375
  t233 := Tryz.underlying363
  a233 := Tryz.isAgg363
  z233 := Tryz.sizeOf363
  v233 := Tryz.zeroValue363
  g15 := by kernel_rfl
  g16 := by kernel_rfl
  g17 := by kernel_rfl
  g18 := by kernel_rfl
  g19 := by kernel_rfl
theorem nAtoi (s : ByteArray) (n : Int) (hl : s.size ≤ 18) (h : Lib.atoi s.data.toList = some n) (w : World) : Calls Tryz.prog 159 #[.string s] w fun e w' => e = .returned (.tuple #[.int .i64 n, .nilIface]) ∧ Below w.heap.size w w' :=
  (Any.strconv_Atoi nmLays172 s n hl h w).mono fun e w' ⟨h1, t, h2⟩ => ⟨h1, by
    rw [h2]
    exact Lib.bytesWorld_below _ _ _⟩
theorem nCut (s p : ByteArray) (w : World) : Calls Tryz.prog 158 #[.string s, .string p] w fun e w' => e = .returned (.tuple #[.string ⟨(Lib.trimPrefix s.data.toList p.data.toList).toArray⟩, .bool (Lib.hasPrefix s.data.toList p.data.toList)]) ∧ w' = w := Any.strings_CutPrefix nmLays103 s p w
theorem dec_atoi {n : Nat} (h : n < 100) : Lib.atoi (Lib.decDigits n) = some (n : Int) := by
  have key : ∀ n, n < 100 → Lib.atoi (if n < 10 then [UInt8.ofNat (48 + n)] else [UInt8.ofNat (48 + n / 10), UInt8.ofNat (48 + n % 10)]) = some (n : Int) := by decide
  have := key n h
  by_cases h1 : n < 10
  · rw [Lib.decDigits_one h1]; rwa [if_pos h1] at this
  · rw [Lib.decDigits_two h1 h]; rwa [if_neg h1] at this
theorem name_cut (n : Nat) : Lib.trimPrefix (nameG n).data.toList [103, 114, 97, 112, 104, 45] = Lib.decDigits n ∧ Lib.hasPrefix (nameG n).data.toList [103, 114, 97, 112, 104, 45] = true := by
  have e : (nameG n).data.toList = [103, 114, 97, 112, 104, 45] ++ Lib.decDigits n := by simp [nameG]
  rw [e]
  simp [Lib.trimPrefix, Lib.hasPrefix]
theorem nNumber (n : Nat) (h : n < 100) (w : World) : Calls Tryz.prog 96 #[.string (nameG n)] w fun e w' => e = .returned (.tuple #[.int .i64 n, .bool true]) ∧ Below w.heap.size w w' := by
  obtain ⟨q1, q2⟩ := name_cut n
  have HC := Lib.hid (fun W => nCut (nameG n) ⟨#[103, 114, 97, 112, 104, 45]⟩ W)
  have HA := Lib.hid (fun W => nAtoi ⟨(Lib.decDigits n).toArray⟩ n (by have := dec_two h; show (Lib.decDigits n).toArray.size ≤ 18; simp; omega) (dec_atoi h) W)
  have HN := Lib.hid (fun W => nName n h W)
  simp only [] at HC
  rw [q1, q2] at HC
  go_enter Tryz.func96, Tryz.ntmps96
  go_wp2_with fail
  (with_reducible refine (HC.out w).mono ?_)
  rintro e w1 ⟨rfl, rfl⟩
  go_wp2_with fail
  (with_reducible refine (HA.out w1).mono ?_)
  rintro e w2 ⟨rfl, hb⟩
  have HB := Lib.hid hb
  clear hb
  go_wp2_with fail
  (with_reducible refine (HN.out w2).mono ?_)
  rintro e w3 ⟨rfl, rfl⟩
  go_wp2
  exact bodyPost_ret (v := .tuple #[.int .i64 n, .bool true]) (by simp [results, Tryz.results96, go_sem]) rfl ⟨rfl, HB.out⟩
end Go.Proofs.YtbhfbdcmamodcaaGreatDoor
namespace Go.Proofs.YtbhfbdcmamodcaaGreatDoor
open Go.RowKit Go.Shelf
def nmLaysC172_ren : Go.Shelf.Ren := ⟨fun | 172 => 159 | 244 => 208 | 245 => 209 | 247 => 235 | 279 => 236 | 280 => 237 | 281 => 238 | 282 => 239 | 287 => 257 | 316 => 258 | 171 => 156 | 205 => 259 | 321 => 268 | 322 => 269 | 243 => 206 | 246 => 234 | 283 => 253 | 284 => 254 | 285 => 255 | 286 => 256 | 129 => 173 | 317 => 264 | 318 => 265 | 319 => 266 | 320 => 267 | 337 => 272 | 338 => 244 | n => n, fun | 9 => 9 | 3 => 3 | 75 => 252 | 76 => 253 | 4 => 4 | 5 => 5 | 167 => 337 | 37 => 23 | 0 => 0 | 85 => 338 | 2 => 2 | 168 => 340 | 53 => 197 | 175 => 357 | 46 => 192 | 210 => 361 | 127 => 370 | 145 => 373 | 143 => 371 | 21 => 21 | 171 => 353 | 173 => 355 | 212 => 367 | 51 => 47 | 20 => 20 | 213 => 368 | 232 => 375 | 233 => 363 | 80 => 160 | n => n, fun | 15 => 0 | 16 => 1 | 17 => 3 | 18 => 5 | 19 => 2 | n => n⟩
theorem nmLaysC172 : Go.Proofs.LaysC.n172 Tryz.prog nmLaysC172_ren where
  mixed := by kernel_rfl
  f129 := Tryz.func173.trans (congrArg some (by kernel_rfl))
  f171 := Tryz.func156.trans (congrArg some (by kernel_rfl))
  f172 := Tryz.func159.trans (congrArg some (by kernel_rfl))
  f205 := Tryz.func259.trans (congrArg some (by kernel_rfl))
  f243 := Tryz.func206.trans (congrArg some (by kernel_rfl))
  f244 := Tryz.func208.trans (congrArg some (by kernel_rfl))
  f245 := Tryz.func209.trans (congrArg some (by kernel_rfl))
  f246 := Tryz.func234.trans (congrArg some (by kernel_rfl))
  f247 := Tryz.func235.trans (congrArg some (by kernel_rfl))
  f279 := Tryz.func236.trans (congrArg some (by kernel_rfl))
  f280 := Tryz.func237.trans (congrArg some (by kernel_rfl))
  f281 := Tryz.func238.trans (congrArg some (by kernel_rfl))
  f282 := Tryz.func239.trans (congrArg some (by kernel_rfl))
  f283 := Tryz.func253.trans (congrArg some (by kernel_rfl))
  f284 := Tryz.func254.trans (congrArg some (by kernel_rfl))
  f285 := Tryz.func255.trans (congrArg some (by kernel_rfl))
  f286 := Tryz.func256.trans (congrArg some (by kernel_rfl))
  f287 := Tryz.func257.trans (congrArg some (by kernel_rfl))
  f316 := Tryz.func258.trans (congrArg some (by kernel_rfl))
  f317 := Tryz.func264.trans (congrArg some (by kernel_rfl))
  f318 := Tryz.func265.trans (congrArg some (by kernel_rfl))
  f319 := Tryz.func266.trans (congrArg some (by kernel_rfl))
  f320 := Tryz.func267.trans (congrArg some (by kernel_rfl))
  f321 := Tryz.func268.trans (congrArg some (by kernel_rfl))
  f322 := Tryz.func269.trans (congrArg some (by kernel_rfl))
  f337 := Tryz.func272.trans (congrArg some (by kernel_rfl))
  f338 := Tryz.func244.trans (congrArg some (by kernel_rfl))
  t0 := Tryz.underlying0
  a0 := Tryz.isAgg0
  z0 := Tryz.sizeOf0
  v0 := Tryz.zeroValue0
  t2 := Tryz.underlying2
  a2 := Tryz.isAgg2
  z2 := Tryz.sizeOf2
  v2 := Tryz.zeroValue2
  t3 := Tryz.underlying3
  a3 := Tryz.isAgg3
  z3 := Tryz.sizeOf3
  v3 := Tryz.zeroValue3
  t4 := Tryz.underlying4
  a4 := Tryz.isAgg4
  z4 := Tryz.sizeOf4
  v4 := Tryz.zeroValue4
  t5 := Tryz.underlying5
  a5 := Tryz.isAgg5
  z5 := Tryz.sizeOf5
  v5 := Tryz.zeroValue5
  t9 := Tryz.underlying9
  a9 := Tryz.isAgg9
  z9 := Tryz.sizeOf9
  v9 := Tryz.zeroValue9
  t20 := Tryz.underlying20
  a20 := Tryz.isAgg20
  z20 := Tryz.sizeOf20
  v20 := Tryz.zeroValue20
  t21 := Tryz.underlying21
  a21 := Tryz.isAgg21
  z21 := Tryz.sizeOf21
  v21 := Tryz.zeroValue21
  t37 := Tryz.underlying23
  a37 := Tryz.isAgg23
  z37 := Tryz.sizeOf23
  v37 := Tryz.zeroValue23
  t46 := Tryz.underlying192
  a46 := Tryz.isAgg192
  z46 := Tryz.sizeOf192
  v46 := Tryz.zeroValue192
  t51 := Tryz.underlying47
  a51 := Tryz.isAgg47
  z51 := Tryz.sizeOf47
  v51 := Tryz.zeroValue47
  t53 := Tryz.underlying197
  a53 := Tryz.isAgg197
  z53 := Tryz.sizeOf197
  v53 := Tryz.zeroValue197
  t75 := Tryz.underlying252
  a75 := Tryz.isAgg252
  z75 := Tryz.sizeOf252
  v75 := Tryz.zeroValue252
  t76 := Tryz.underlying253
  a76 := Tryz.isAgg253
  z76 := Tryz.sizeOf253
  v76 := Tryz.zeroValue253
  t85 := Tryz.underlying338
  a85 := Tryz.isAgg338
  z85 := Tryz.sizeOf338
  v85 := Tryz.zeroValue338
  t127 := Tryz.underlying370
  a127 := Tryz.isAgg370
  z127 := Tryz.sizeOf370
  v127 := Tryz.zeroValue370
  t143 := Tryz.underlying371
  a143 := Tryz.isAgg371
  z143 := Tryz.sizeOf371
  v143 := Tryz.zeroValue371
  t145 := Tryz.underlying373
  a145 := Tryz.isAgg373
  z145 := Tryz.sizeOf373
  v145 := Tryz.zeroValue373
  t167 := Tryz.underlying337
  a167 := Tryz.isAgg337
  z167 := Tryz.sizeOf337
  v167 := Tryz.zeroValue337
  t168 := Tryz.underlying340
  a168 := Tryz.isAgg340
  z168 := Tryz.sizeOf340
  v168 := Tryz.zeroValue340
  t171 := Tryz.underlying353
  a171 := Tryz.isAgg353
  z171 := Tryz.sizeOf353
  v171 := Tryz.zeroValue353
  t173 := Tryz.underlying355
  a173 := Tryz.isAgg355
  z173 := Tryz.sizeOf355
  v173 := Tryz.zeroValue355
  t175 := Tryz.underlying357
  a175 := Tryz.isAgg357
  z175 := Tryz.sizeOf357
  v175 := Tryz.zeroValue357
  t210 := Tryz.underlying361
  a210 := Tryz.isAgg361
  z210 := Tryz.sizeOf361
  v210 := Tryz.zeroValue361
  t212 := Tryz.underlying367
  a212 := Tryz.isAgg367
  z212 := Tryz.sizeOf367
  v212 := Tryz.zeroValue367
  t213 := Tryz.underlying368
  a213 := Tryz.isAgg368
  z213 := Tryz.sizeOf368
  t232 := Tryz.underlying375
  a232 := Tryz.isAgg375
  z232 := Tryz.sizeOf375
  v232 := Tryz.zeroValue375
  t233 := Tryz.underlying363
  a233 := Tryz.isAgg363
  z233 := Tryz.sizeOf363
  v233 := Tryz.zeroValue363
  g15 := by kernel_rfl
  g16 := by kernel_rfl
  g17 := by kernel_rfl
  g18 := by kernel_rfl
  g19 := by kernel_rfl
  t80 := Tryz.underlying160
  a80 := Tryz.isAgg160
  z80 := Tryz.sizeOf160
  v80 := Tryz.zeroValue160
  i0 := by kernel_rfl
  i2 := by kernel_rfl
  i3 := by kernel_rfl
  i4 := by kernel_rfl
  i5 := by kernel_rfl
  i9 := by kernel_rfl
  i20 := by kernel_rfl
  i21 := by kernel_rfl
  i37 := by kernel_rfl
  i46 := by kernel_rfl
  i51 := by kernel_rfl
  i53 := by kernel_rfl
  i75 := by kernel_rfl
  i76 := by kernel_rfl
  i80 := by kernel_rfl
  i85 := by kernel_rfl
  i127 := by kernel_rfl
  i143 := by kernel_rfl
  i145 := by kernel_rfl
  i167 := by kernel_rfl
  i168 := by kernel_rfl
  i171 := by kernel_rfl
  i173 := by kernel_rfl
  i175 := by kernel_rfl
  i210 := by kernel_rfl
  i212 := by kernel_rfl
  i232 := by kernel_rfl
  i233 := by kernel_rfl
  m15 := by kernel_rfl
  m16 := by kernel_rfl
  m17 := by kernel_rfl
  m18 := by kernel_rfl
  m19 := by kernel_rfl
  c0 := by kernel_rfl
  c2 := by kernel_rfl
  c3 := by kernel_rfl
  c4 := by kernel_rfl
  c5 := by kernel_rfl
  c9 := by kernel_rfl
  c20 := by kernel_rfl
  c21 := by kernel_rfl
  c37 := by kernel_rfl
  c46 := by kernel_rfl
  c51 := by kernel_rfl
  c53 := by kernel_rfl
  c75 := by kernel_rfl
  c76 := by kernel_rfl
  c80 := by kernel_rfl
  c85 := by kernel_rfl
  c127 := by kernel_rfl
  c143 := by kernel_rfl
  c145 := by kernel_rfl
  c167 := by kernel_rfl
  c168 := by kernel_rfl
  c171 := by kernel_rfl
  c173 := by kernel_rfl
  c175 := by kernel_rfl
  c210 := by kernel_rfl
  c212 := by kernel_rfl
  c213 := by kernel_rfl
  c232 := by kernel_rfl
  c233 := by kernel_rfl
def SynOk (w : World) : Prop := ∃ ev, w.cell? ⟨nmLaysC172_ren.g 15, 0, none⟩ = some ev ∧ (ev = .nilIface ∨ ∃ te pe, ev = .iface te pe)
theorem nAtoiErr (s : ByteArray) (hl : s.size ≤ 18) (h : Lib.atoi s.data.toList = none) (w : World) (hv : SynOk w) :
    Calls Tryz.prog 159 #[.string s] w fun e w' => ∃ t p, e = .returned (.tuple #[.int .i64 0, .iface t (.pointer p)]) ∧ Below w.heap.size w w' := by
  obtain ⟨ev, h1, h2⟩ := hv
  exact (Any.strconv_Atoi_err nmLaysC172 s hl h ev w h1 h2).mono fun e w' ⟨N, q1, _, _, q2⟩ => ⟨_, _, q1, q2⟩
theorem nNumberNo (s : ByteArray) (hp : Lib.hasPrefix s.data.toList [103, 114, 97, 112, 104, 45] = false) (hl : s.size ≤ 18) (h : Lib.atoi s.data.toList = none) (w : World) (hv : SynOk w) :
    Calls Tryz.prog 96 #[.string s] w fun e w' => e = .returned (.tuple #[.int .i64 0, .bool false]) ∧ Below w.heap.size w w' := by
  have hb : (⟨s.data.toList.toArray⟩ : ByteArray) = s := by cases s; simp
  have HC := Lib.hid (fun W => nCut s ⟨#[103, 114, 97, 112, 104, 45]⟩ W)
  have HA := Lib.hid (fun W hW => nAtoiErr s hl h W hW)
  have HV := Lib.hid hv
  simp only [] at HC
  unfold Lib.trimPrefix at HC
  rw [hp] at HC
  simp only [Bool.false_eq_true, if_false] at HC
  rw [hb] at HC
  clear hv hb
  go_enter Tryz.func96, Tryz.ntmps96
  go_wp2_with fail
  (with_reducible refine (HC.out w).mono ?_)
  rintro e w1 ⟨rfl, rfl⟩
  go_wp2_with fail
  (with_reducible refine (HA.out w1 HV.out).mono ?_)
  rintro e w2 ⟨t, p, rfl, hb⟩
  have HB := Lib.hid hb
  clear hb
  go_wp2
  exact bodyPost_ret (v := .tuple #[.int .i64 0, .bool false]) (by simp [results, Tryz.results96, go_sem]) rfl ⟨rfl, HB.out⟩
end Go.Proofs.YtbhfbdcmamodcaaGreatDoor
