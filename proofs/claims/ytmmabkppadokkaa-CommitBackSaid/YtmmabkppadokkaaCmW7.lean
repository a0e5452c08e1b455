/- Walks of layer 9: what bytes are read as, in the program and in the document's answer. -/
import Derived.Test.YtmmabkppadokkaaCmW6
set_option linter.unusedVariables false
set_option linter.unusedSimpArgs false
namespace Go.Proofs.Ytmmabkppadokkaa
open Go.RowKit PackMath

theorem xNumber_4 (p : Nat) (s : ByteArray) (a e : Nat) (w : World) (v f b g : Nat) (hN : numR s a e 4 = ((v, f), (b, g))) (h : IsRd TX w p s a e) : Calls Try.prog 36 #[.pointer (some ⟨p, 0, none⟩), .int .i64 4] w fun r w' => r = .returned (.tuple #[.int .u64 v, .int .i64 f]) ∧ Kept w w' p ∧ IsRd TX w' p s b g :=
  xNumber_ex p s a e w 4 4 rfl (by decide) v f b g hN h

theorem xNumber_1 (p : Nat) (s : ByteArray) (a e : Nat) (w : World) (v f b g : Nat) (hN : numR s a e 1 = ((v, f), (b, g))) (h : IsRd TX w p s a e) : Calls Try.prog 36 #[.pointer (some ⟨p, 0, none⟩), .int .i64 1] w fun r w' => r = .returned (.tuple #[.int .u64 v, .int .i64 f]) ∧ Kept w w' p ∧ IsRd TX w' p s b g :=
  xNumber_ex p s a e w 1 1 rfl (by decide) v f b g hN h

set_option maxHeartbeats 1000000 in
set_option maxRecDepth 100000 in
theorem cDecode_form (s : ByteArray) (hs : s.size < 281474976710656) (w : World) (t f0 a1 e1 n f1 a2 e2 : Nat) (hN0 : numR s 0 0 4 = ((t, f0), (a1, e1))) (hN1 : numR s a1 e1 1 = ((n, f1), (a2, e2))) (hf : f1 = 0 ∧ 16 < n) : Calls Try.prog 17 #[.string s] w (DecSaid s w) := by
  obtain ⟨i0, hi, hz0, hz1, hz2⟩ := info_parts infoInt
  have ht : t < 4294967296 := by have := numR_lt s 0 0 4; rw [hN0] at this; exact this
  have hn : n < 256 := by have := numR_lt s a1 e1 1; rw [hN1] at this; exact this
  have HN0 := Lib.hid hN0; have HN1 := Lib.hid hN1
  clear hN0 hN1
  have HR0 := Lib.hid (ResAt.start w)
  obtain ⟨hf1, hn16⟩ := hf
  have HF := Lib.hid (dec_form HN0.out HN1.out hf1 hn16)
  have hd1 : ((f1 : Int) == 0) = true := by simp; omega
  have hd2 : decide ((16 : Int) < (n : Int)) = true := by simp; omega
  clear hf1
  go_enter Try.func17, Try.ntmps17
  go_wp2_with (go_at_call 29; refine (rd_new _ s hs).mono ?_; rintro r w1 ⟨rfl, hb, hr⟩; rw [res_size] at hr; have HR1 := Lib.hid (HR0.out.below hb); have HD1 := Lib.hid hr; clear hb hr)
  go_wp2_with (go_at_call 30; refine (rU32_ex _ s 0 0 w1 t f0 a1 e1 HN0.out HD1.out).mono ?_; rintro r w2 ⟨rfl, hk, hr⟩; have HR2 := Lib.hid (HR1.out.kept hk (Nat.lt_succ_self _)); have HD2 := Lib.hid hr; clear hk hr)
  go_wp2_with (go_at_call 31; refine (rU8_ex _ s a1 e1 w2 n f1 a2 e2 HN1.out HD2.out).mono ?_; rintro r w3 ⟨rfl, hk, hr⟩; have HR3 := Lib.hid (HR2.out.kept hk (Nat.lt_succ_self _)); obtain ⟨r0, r1, q0, q1⟩ := (HR2.out.kept hk (Nat.lt_succ_self _)).cells; clear hk hr)
  obtain ⟨e0, e1', hbz⟩ := ResAt.done (v := .slice none 0 0) (t := 0) HR3.out
  refine bodyPost_ret (v := .tuple #[.agg #[.slice none 0 0, .int .i64 0], .int .i64 3]) (by simp [results, Try.results17, go_sem, e0, e1']) rfl ?_
  exact dec_nil HF.out hbz

set_option maxHeartbeats 1000000 in
set_option maxRecDepth 100000 in
theorem cDecode_rest (s : ByteArray) (hs : s.size < 281474976710656) (w : World) (t f0 a1 e1 n f1 a2 e2 : Nat) (hN0 : numR s 0 0 4 = ((t, f0), (a1, e1))) (hN1 : numR s a1 e1 1 = ((n, f1), (a2, e2))) (hf : ¬ (f1 = 0 ∧ 16 < n)) : Calls Try.prog 17 #[.string s] w (DecSaid s w) := by
  obtain ⟨i0, hi, hz0, hz1, hz2⟩ := info_parts infoInt
  have ht : t < 4294967296 := by have := numR_lt s 0 0 4; rw [hN0] at this; exact this
  have hn : n < 256 := by have := numR_lt s a1 e1 1; rw [hN1] at this; exact this
  have HN0 := Lib.hid hN0; have HN1 := Lib.hid hN1
  clear hN0 hN1
  have HR0 := Lib.hid (ResAt.start w)
  have HNF := Lib.hid hf
  have hgd : f1 = 0 → ¬ 16 < n := fun h1 h2 => hf ⟨h1, h2⟩
  clear hf
  have hcase : (((f1 : Int) == 0) = false) ∨ (((f1 : Int) == 0) = true ∧ decide ((16 : Int) < (n : Int)) = false) := by
    by_cases hf1 : f1 = 0
    · exact .inr ⟨by simp; omega, by have := hgd hf1; simp; omega⟩
    · exact .inl (by simp; omega)
  have HG := Lib.hid hcase
  clear hgd hcase
  have hti : IntKind.i64.wrap (t : Int) = (t : Int) := IntWalk.i64_in _ (by omega)
  go_enter Try.func17, Try.ntmps17
  go_wp2_with (go_at_call 29; refine (rd_new _ s hs).mono ?_; rintro r w1 ⟨rfl, hb, hr⟩; rw [res_size] at hr; have HR1 := Lib.hid (HR0.out.below hb); have HD1 := Lib.hid hr; clear hb hr)
  go_wp2_with (go_at_call 30; refine (rU32_ex _ s 0 0 w1 t f0 a1 e1 HN0.out HD1.out).mono ?_; rintro r w2 ⟨rfl, hk, hr⟩; have HR2 := Lib.hid (HR1.out.kept hk (Nat.lt_succ_self _)); have HD2 := Lib.hid hr; clear hk hr)
  rcases HG.out with hd1 | ⟨hd1, hd2⟩
  all_goals
    go_wp2_with (go_at_call 31; refine (rU8_ex _ s a1 e1 w2 n f1 a2 e2 HN1.out HD2.out).mono ?_; rintro r w3 ⟨rfl, hk, hr⟩; have HR3 := Lib.hid (HR2.out.kept hk (Nat.lt_succ_self _)); have HD3 := Lib.hid hr; clear hk hr)
    have HS := Lib.hid (DecAt.start HR3.out HD3.out t)
    go_loopw [36] (fun i wr => ∃ (j a e : Nat) (v : Value) (pre : List Int), j ≤ n ∧ i = .int .u8 j ∧ pre.length = j ∧ readsR s n a2 e2 = (pre ++ (readsR s (n - j) a e).1, (readsR s (n - j) a e).2) ∧ DecAt TR w wr (w.heap.size + 1) w3.heap.size s a e v pre t) (fun i _ => n - (intOf i).toNat)
    case atStart => exact ⟨0, a2, e2, _, [], Nat.zero_le _, rfl, rfl, rfl, HS.out⟩
    case round =>
      obtain ⟨j, a, e, v, pre, hj, rfl, hpl, hrd, hda⟩ := hrel
      have HL := Lib.hid hrd; have HD := Lib.hid hda; have HPL := Lib.hid hpl
      clear hrd hda
      by_cases hlt : j < n
      · obtain ⟨x, fx, b, g, hX⟩ : ∃ v f b g, numR s a e 4 = ((v, f), (b, g)) := ⟨_, _, _, _, rfl⟩
        have hx : x < 4294967296 := by have := numR_lt s a e 4; rw [hX] at this; exact this
        have HX := Lib.hid hX
        have HL2 := Lib.hid (reads_step HL.out hlt hX)
        have hxi : IntKind.i64.wrap (x : Int) = (x : Int) := IntWalk.i64_in _ (by omega)
        have hpl2 : pre.length + 1 ≤ 256 := by omega
        clear hX hpl
        go_wp2_with (first
          | (go_at_call 30; refine (rU32_ex _ s a e wr x fx b g HX.out HD.out.rd).mono ?_; rintro r wn ⟨rfl, hk, hr⟩; have HDn := Lib.hid (HD.out.read hk hr); obtain ⟨c0, k0⟩ := (HD.out.read hk hr).cell; clear hk hr)
          | (refine wpList_append_lies _ rfl (.tmp 44) (.tmp 47) 22 rfl (w3.heap.size + 1) 3 i0 (.int .i64 0) 1 8 Try.underlying22 hi hz0 hz1 hz2 rfl (by decide) v pre.length (intVals pre) rfl (HDn.out.row.alloc _) ⟨wn.heap.size, 0, none⟩ 1 1 [.int .i64 x] rfl rfl (cells_one _ _ _) (intVals_one [(x : Int)]) (by decide) (by unfold maxLen; omega) (by omega) (by have := HDn.out.big; simp; omega) (wn.heap.size + 1) (by simp) ?_; intro gg cp w5 hown hg hat hlt5; have HM := Lib.hid (HDn.out.push hown hg (hat.imp (fun e => e.symm) (fun e => by rw [e]; rfl))); obtain ⟨c1, k1⟩ := HDn.out.mid hg; clear hown hg hat hlt5))
        go_roundw
        case rel => exact ⟨j + 1, b, g, _, pre ++ [(x : Int)], by omega, by go_num, by rw [List.length_append, HPL.out]; rfl, HL2.out, HM.out⟩
        case measure => simp [intOf]; omega
      · obtain rfl : j = n := by omega
        have HE := Lib.hid (reads_end HL.out)
        obtain ⟨ca, cp, hv, hcom⟩ := HD.out.com (by have := congrArg (fun R => R.1) HE.out; simp only at this; rw [← this]; exact reads_small _ _ _) (by omega)
        subst hv
        have HC := Lib.hid hcom
        clear hcom hpl
        by_cases hE : endR s a e = 0
        · have HEE := Lib.hid hE
          by_cases hc : checkR t pre = 0
          · have HF := Lib.hid (dec_ok HN0.out HN1.out HNF.out HE.out hE hc)
            have HCK := Lib.hid (cCheck_ex hc)
            clear hE hc
            go_wp2_with (go_at_call 32; refine (rEnd _ s a e wr HD.out.rd).mono ?_; rintro r w6 ⟨rfl, hk, hr⟩; rw [HEE.out]; have HD6 := Lib.hid (HD.out.read hk hr); obtain ⟨c0, c1, k0⟩ := (HD.out.read hk hr).both; have HC6 := Lib.hid ((HD.out.read hk hr).comAt HC.out); clear hk hr)
            go_wp2_with (go_at_call 11; refine (HCK.out _ _ _ HC6.out).mono ?_; rintro r w7 ⟨rfl, hb⟩; have HD7 := Lib.hid (HD6.out.below hb); obtain ⟨d0, d1, l0⟩ := (HD6.out.below hb).both; obtain ⟨r0, r1, q0, q1⟩ := (HD6.out.below hb).res.cells; clear hb c0 c1 k0)
            obtain ⟨e0, e1', hbz⟩ := ResAt.done (v := .slice ca pre.length cp) (t := (t : Int)) HD7.out.res
            refine bodyPost_ret (v := .tuple #[.agg #[.slice ca pre.length cp, .int .i64 t], .int .i64 0]) (by simp [results, Try.results17, go_sem, e0, e1']) rfl ?_
            exact dec_row HF.out hbz (HD7.out.rowAt)
          · have HF := Lib.hid (dec_chk HN0.out HN1.out HNF.out HE.out hE hc)
            have HCK := Lib.hid (cCheck_all (t := (t : Int)) (zs := pre))
            have hcd : (((checkR t pre : Nat) : Int) != 0) = true := by simp; omega
            clear hE hc
            go_wp2_with (go_at_call 32; refine (rEnd _ s a e wr HD.out.rd).mono ?_; rintro r w6 ⟨rfl, hk, hr⟩; rw [HEE.out]; have HD6 := Lib.hid (HD.out.read hk hr); obtain ⟨c0, c1, k0⟩ := (HD.out.read hk hr).both; have HC6 := Lib.hid ((HD.out.read hk hr).comAt HC.out); clear hk hr)
            go_wp2_with (go_at_call 11; refine (HCK.out _ _ _ HC6.out).mono ?_; rintro r w7 ⟨rfl, hb⟩; have HD7 := Lib.hid (HD6.out.below hb); obtain ⟨r0, r1, q0, q1⟩ := (HD6.out.below hb).res.cells; clear hb c0 c1 k0)
            obtain ⟨e0, e1', hbz⟩ := ResAt.done (v := .slice none 0 0) (t := 0) HD7.out.res
            refine bodyPost_ret (v := .tuple #[.agg #[.slice none 0 0, .int .i64 0], .int .i64 3]) (by simp [results, Try.results17, go_sem, e0, e1']) rfl ?_
            exact dec_nil HF.out hbz
        · have HF := Lib.hid (dec_end HN0.out HN1.out HNF.out HE.out hE)
          have hcd : (((endR s a e : Nat) : Int) != 0) = true := by simp; omega
          have hcd2 : (((endR s a e : Nat) : Int) == 0) = false := by simp; omega
          clear hE
          go_wp2_with (go_at_call 32; refine (rEnd _ s a e wr HD.out.rd).mono ?_; rintro r w6 ⟨rfl, hk, hr⟩; have HD6 := Lib.hid (HD.out.read hk hr); obtain ⟨r0, r1, q0, q1⟩ := (HD.out.read hk hr).res.cells; clear hk hr)
          obtain ⟨e0, e1', hbz⟩ := ResAt.done (v := .slice none 0 0) (t := 0) HD6.out.res
          refine bodyPost_ret (v := .tuple #[.agg #[.slice none 0 0, .int .i64 0], .int .i64 (endR s a e : Nat)]) (by simp [results, Try.results17, go_sem, e0, e1']) rfl ?_
          exact dec_nil HF.out hbz

theorem cDecode (s : ByteArray) (hs : s.size < 281474976710656) (w : World) : Calls Try.prog 17 #[.string s] w (DecSaid s w) := by
  obtain ⟨t, f0, a1, e1, hN0⟩ : ∃ v f b g, numR s 0 0 4 = ((v, f), (b, g)) := ⟨_, _, _, _, rfl⟩
  obtain ⟨n, f1, a2, e2, hN1⟩ : ∃ v f b g, numR s a1 e1 1 = ((v, f), (b, g)) := ⟨_, _, _, _, rfl⟩
  by_cases hf : f1 = 0 ∧ 16 < n
  · exact cDecode_form s hs w t f0 a1 e1 n f1 a2 e2 hN0 hN1 hf
  · exact cDecode_rest s hs w t f0 a1 e1 n f1 a2 e2 hN0 hN1 hf

set_option maxHeartbeats 1000000 in
set_option maxRecDepth 100000 in
theorem dDecode_form (s : ByteArray) (hs : s.size < 281474976710656) (w : World) (t f0 a1 e1 n f1 a2 e2 : Nat) (hN0 : numR s 0 0 4 = ((t, f0), (a1, e1))) (hN1 : numR s a1 e1 1 = ((n, f1), (a2, e2))) (hf : f1 = 0 ∧ 16 < n) : Calls Try.prog 28 #[.string s] w (DecSaid s w) := by
  obtain ⟨i0, hi, hz0, hz1, hz2⟩ := info_parts infoInt
  have ht : t < 4294967296 := by have := numR_lt s 0 0 4; rw [hN0] at this; exact this
  have hn : n < 256 := by have := numR_lt s a1 e1 1; rw [hN1] at this; exact this
  have HN0 := Lib.hid hN0; have HN1 := Lib.hid hN1
  clear hN0 hN1
  have HR0 := Lib.hid (ResAt.start w)
  obtain ⟨hf1, hn16⟩ := hf
  have HF := Lib.hid (dec_form HN0.out HN1.out hf1 hn16)
  have hd1 : ((f1 : Int) == 0) = true := by simp; omega
  have hd2 : decide ((16 : Int) < (n : Int)) = true := by simp; omega
  clear hf1
  go_enter Try.func28, Try.ntmps28
  go_wp2_with (go_at_call 35; refine (rx_new _ s hs).mono ?_; rintro r w1 ⟨rfl, hb, hr⟩; rw [res_size] at hr; have HR1 := Lib.hid (HR0.out.below hb); have HD1 := Lib.hid hr; clear hb hr)
  go_wp2_with (go_at_call 36; (with_reducible refine (xNumber_4 _ s 0 0 w1 t f0 a1 e1 HN0.out HD1.out).mono ?_); rintro r w2 ⟨rfl, hk, hr⟩; have HR2 := Lib.hid (HR1.out.kept hk (Nat.lt_succ_self _)); have HD2 := Lib.hid hr; clear hk hr)
  go_wp2_with (go_at_call 36; (with_reducible refine (xNumber_1 _ s a1 e1 w2 n f1 a2 e2 HN1.out HD2.out).mono ?_); rintro r w3 ⟨rfl, hk, hr⟩; have HR3 := Lib.hid (HR2.out.kept hk (Nat.lt_succ_self _)); obtain ⟨r0, r1, q0, q1⟩ := (HR2.out.kept hk (Nat.lt_succ_self _)).cells; clear hk hr)
  obtain ⟨e0, e1', hbz⟩ := ResAt.done (v := .slice none 0 0) (t := 0) HR3.out
  refine bodyPost_ret (v := .tuple #[.agg #[.slice none 0 0, .int .i64 0], .int .i64 3]) (by simp [results, Try.results28, go_sem, e0, e1']) rfl ?_
  exact dec_nil HF.out hbz

set_option maxHeartbeats 1000000 in
set_option maxRecDepth 100000 in
theorem dDecode_rest (s : ByteArray) (hs : s.size < 281474976710656) (w : World) (t f0 a1 e1 n f1 a2 e2 : Nat) (hN0 : numR s 0 0 4 = ((t, f0), (a1, e1))) (hN1 : numR s a1 e1 1 = ((n, f1), (a2, e2))) (hf : ¬ (f1 = 0 ∧ 16 < n)) : Calls Try.prog 28 #[.string s] w (DecSaid s w) := by
  obtain ⟨i0, hi, hz0, hz1, hz2⟩ := info_parts infoInt
  have ht : t < 4294967296 := by have := numR_lt s 0 0 4; rw [hN0] at this; exact this
  have hn : n < 256 := by have := numR_lt s a1 e1 1; rw [hN1] at this; exact this
  have HN0 := Lib.hid hN0; have HN1 := Lib.hid hN1
  clear hN0 hN1
  have HR0 := Lib.hid (ResAt.start w)
  have HNF := Lib.hid hf
  have hgd : f1 = 0 → ¬ 16 < n := fun h1 h2 => hf ⟨h1, h2⟩
  clear hf
  have hcase : (((f1 : Int) == 0) = false) ∨ (((f1 : Int) == 0) = true ∧ decide ((16 : Int) < (n : Int)) = false) := by
    by_cases hf1 : f1 = 0
    · exact .inr ⟨by simp; omega, by have := hgd hf1; simp; omega⟩
    · exact .inl (by simp; omega)
  have HG := Lib.hid hcase
  clear hgd hcase
  have hti : IntKind.i64.wrap (t : Int) = (t : Int) := IntWalk.i64_in _ (by omega)
  go_enter Try.func28, Try.ntmps28
  go_wp2_with (go_at_call 35; refine (rx_new _ s hs).mono ?_; rintro r w1 ⟨rfl, hb, hr⟩; rw [res_size] at hr; have HR1 := Lib.hid (HR0.out.below hb); have HD1 := Lib.hid hr; clear hb hr)
  go_wp2_with (go_at_call 36; (with_reducible refine (xNumber_4 _ s 0 0 w1 t f0 a1 e1 HN0.out HD1.out).mono ?_); rintro r w2 ⟨rfl, hk, hr⟩; have HR2 := Lib.hid (HR1.out.kept hk (Nat.lt_succ_self _)); have HD2 := Lib.hid hr; clear hk hr)
  rcases HG.out with hd1 | ⟨hd1, hd2⟩
  all_goals
    go_wp2_with (go_at_call 36; (with_reducible refine (xNumber_1 _ s a1 e1 w2 n f1 a2 e2 HN1.out HD2.out).mono ?_); rintro r w3 ⟨rfl, hk, hr⟩; have HR3 := Lib.hid (HR2.out.kept hk (Nat.lt_succ_self _)); have HD3 := Lib.hid hr; clear hk hr)
    have HS := Lib.hid (DecAt.start HR3.out HD3.out t)
    go_loopw [10] (fun i wr => ∃ (j a e : Nat) (v : Value) (pre : List Int), j ≤ n ∧ i = .int .i64 j ∧ pre.length = j ∧ readsR s n a2 e2 = (pre ++ (readsR s (n - j) a e).1, (readsR s (n - j) a e).2) ∧ DecAt TX w wr (w.heap.size + 1) w3.heap.size s a e v pre t) (fun i _ => n - (intOf i).toNat)
    case atStart => exact ⟨0, a2, e2, _, [], Nat.zero_le _, rfl, rfl, rfl, HS.out⟩
    case round =>
      obtain ⟨j, a, e, v, pre, hj, rfl, hpl, hrd, hda⟩ := hrel
      have HL := Lib.hid hrd; have HD := Lib.hid hda; have HPL := Lib.hid hpl
      clear hrd hda
      by_cases hlt : j < n
      · obtain ⟨x, fx, b, g, hX⟩ : ∃ v f b g, numR s a e 4 = ((v, f), (b, g)) := ⟨_, _, _, _, rfl⟩
        have hx : x < 4294967296 := by have := numR_lt s a e 4; rw [hX] at this; exact this
        have HX := Lib.hid hX
        have HL2 := Lib.hid (reads_step HL.out hlt hX)
        have hxi : IntKind.i64.wrap (x : Int) = (x : Int) := IntWalk.i64_in _ (by omega)
        have hpl2 : pre.length + 1 ≤ 256 := by omega
        clear hX hpl
        go_wp2_with (first
          | (go_at_call 36; (with_reducible refine (xNumber_4 _ s a e wr x fx b g HX.out HD.out.rd).mono ?_); rintro r wn ⟨rfl, hk, hr⟩; have HDn := Lib.hid (HD.out.read hk hr); obtain ⟨c0, k0⟩ := (HD.out.read hk hr).cell; clear hk hr)
          | (refine wpList_append_lies _ rfl (.tmp 47) (.tmp 50) 22 rfl (w3.heap.size + 1) 3 i0 (.int .i64 0) 1 8 Try.underlying22 hi hz0 hz1 hz2 rfl (by decide) v pre.length (intVals pre) rfl (HDn.out.row.alloc _) ⟨wn.heap.size, 0, none⟩ 1 1 [.int .i64 x] rfl rfl (cells_one _ _ _) (intVals_one [(x : Int)]) (by decide) (by unfold maxLen; omega) (by omega) (by have := HDn.out.big; simp; omega) (wn.heap.size + 1) (by simp) ?_; intro gg cp w5 hown hg hat hlt5; have HM := Lib.hid (HDn.out.push hown hg (hat.imp (fun e => e.symm) (fun e => by rw [e]; rfl))); obtain ⟨c1, k1⟩ := HDn.out.mid hg; clear hown hg hat hlt5))
        go_roundw
        case rel => exact ⟨j + 1, b, g, _, pre ++ [(x : Int)], by omega, by go_num, by rw [List.length_append, HPL.out]; rfl, HL2.out, HM.out⟩
        case measure => simp [intOf]; omega
      · obtain rfl : j = n := by omega
        have HE := Lib.hid (reads_end HL.out)
        obtain ⟨ca, cp, hv, hcom⟩ := HD.out.com (by have := congrArg (fun R => R.1) HE.out; simp only at this; rw [← this]; exact reads_small _ _ _) (by omega)
        subst hv
        have HC := Lib.hid hcom
        clear hcom hpl
        by_cases hE : endR s a e = 0
        · have HEE := Lib.hid hE
          by_cases hc : checkR t pre = 0
          · have HF := Lib.hid (dec_ok HN0.out HN1.out HNF.out HE.out hE hc)
            have HCK := Lib.hid (dCheck_ex hc)
            clear hE hc
            go_wp2_with (go_at_call 37; refine (xEnd _ s a e wr HD.out.rd).mono ?_; rintro r w6 ⟨rfl, hk, hr⟩; rw [HEE.out]; have HD6 := Lib.hid (HD.out.read hk hr); obtain ⟨c0, c1, k0⟩ := (HD.out.read hk hr).both; have HC6 := Lib.hid ((HD.out.read hk hr).comAt HC.out); clear hk hr)
            go_wp2_with (go_at_call 12; refine (HCK.out _ _ _ HC6.out).mono ?_; rintro r w7 ⟨rfl, hb⟩; have HD7 := Lib.hid (HD6.out.below hb); obtain ⟨d0, d1, l0⟩ := (HD6.out.below hb).both; obtain ⟨r0, r1, q0, q1⟩ := (HD6.out.below hb).res.cells; clear hb c0 c1 k0)
            obtain ⟨e0, e1', hbz⟩ := ResAt.done (v := .slice ca pre.length cp) (t := (t : Int)) HD7.out.res
            refine bodyPost_ret (v := .tuple #[.agg #[.slice ca pre.length cp, .int .i64 t], .int .i64 0]) (by simp [results, Try.results28, go_sem, e0, e1']) rfl ?_
            exact dec_row HF.out hbz (HD7.out.rowAt)
          · have HF := Lib.hid (dec_chk HN0.out HN1.out HNF.out HE.out hE hc)
            have HCK := Lib.hid (dCheck_all (t := (t : Int)) (zs := pre))
            have hcd : (((checkR t pre : Nat) : Int) != 0) = true := by simp; omega
            clear hE hc
            go_wp2_with (go_at_call 37; refine (xEnd _ s a e wr HD.out.rd).mono ?_; rintro r w6 ⟨rfl, hk, hr⟩; rw [HEE.out]; have HD6 := Lib.hid (HD.out.read hk hr); obtain ⟨c0, c1, k0⟩ := (HD.out.read hk hr).both; have HC6 := Lib.hid ((HD.out.read hk hr).comAt HC.out); clear hk hr)
            go_wp2_with (go_at_call 12; refine (HCK.out _ _ _ HC6.out).mono ?_; rintro r w7 ⟨rfl, hb⟩; have HD7 := Lib.hid (HD6.out.below hb); obtain ⟨r0, r1, q0, q1⟩ := (HD6.out.below hb).res.cells; clear hb c0 c1 k0)
            obtain ⟨e0, e1', hbz⟩ := ResAt.done (v := .slice none 0 0) (t := 0) HD7.out.res
            refine bodyPost_ret (v := .tuple #[.agg #[.slice none 0 0, .int .i64 0], .int .i64 3]) (by simp [results, Try.results28, go_sem, e0, e1']) rfl ?_
            exact dec_nil HF.out hbz
        · have HF := Lib.hid (dec_end HN0.out HN1.out HNF.out HE.out hE)
          have hcd : (((endR s a e : Nat) : Int) != 0) = true := by simp; omega
          have hcd2 : (((endR s a e : Nat) : Int) == 0) = false := by simp; omega
          clear hE
          go_wp2_with (go_at_call 37; refine (xEnd _ s a e wr HD.out.rd).mono ?_; rintro r w6 ⟨rfl, hk, hr⟩; have HD6 := Lib.hid (HD.out.read hk hr); obtain ⟨r0, r1, q0, q1⟩ := (HD.out.read hk hr).res.cells; clear hk hr)
          obtain ⟨e0, e1', hbz⟩ := ResAt.done (v := .slice none 0 0) (t := 0) HD6.out.res
          refine bodyPost_ret (v := .tuple #[.agg #[.slice none 0 0, .int .i64 0], .int .i64 (endR s a e : Nat)]) (by simp [results, Try.results28, go_sem, e0, e1']) rfl ?_
          exact dec_nil HF.out hbz

theorem dDecode (s : ByteArray) (hs : s.size < 281474976710656) (w : World) : Calls Try.prog 28 #[.string s] w (DecSaid s w) := by
  obtain ⟨t, f0, a1, e1, hN0⟩ : ∃ v f b g, numR s 0 0 4 = ((v, f), (b, g)) := ⟨_, _, _, _, rfl⟩
  obtain ⟨n, f1, a2, e2, hN1⟩ : ∃ v f b g, numR s a1 e1 1 = ((v, f), (b, g)) := ⟨_, _, _, _, rfl⟩
  by_cases hf : f1 = 0 ∧ 16 < n
  · exact dDecode_form s hs w t f0 a1 e1 n f1 a2 e2 hN0 hN1 hf
  · exact dDecode_rest s hs w t f0 a1 e1 n f1 a2 e2 hN0 hN1 hf

end Go.Proofs.Ytmmabkppadokkaa
