/- Walks of layer 8: what bytes are read as, by the document. -/
import Derived.Test.YtdjpmgkcgpkkmaaTrDd
set_option linter.unusedVariables false
set_option linter.unusedSimpArgs false
namespace Go.Proofs.Ytdjpmgkcgpkkmaa
open Go.RowKit PackMath TrMath

set_option maxHeartbeats 40000000 in
set_option maxRecDepth 100000 in
theorem rDecodeA (s : ByteArray) (hs : s.size < 281474976710656) (w : World) (c f0 a0 e0 : Nat) (h0 : numR s 0 0 2 = ((c, f0), (a0, e0))) (hf : f0 = 0) (hc : ¬ 1024 < c) :
    Calls Try.prog 50 #[.string s] w (DecTSaid s w) := by
  obtain ⟨i0, hi, hz0, hz1, hz2⟩ := info_parts infoEntry
  obtain ⟨hd3, hd4⟩ := dec_3 h0 hf hc
  have H0 := Lib.hid h0
  have hfz : ((f0 : Int) == 0) = true := by simp; omega
  have hcz : decide ((1024 : Int) < (c : Int)) = false := by simp; omega
  have hcz2 : decide (1024 < c) = false := by simp; omega
  have hcw : IntKind.i64.wrap (c : Int) = (c : Int) := IntWalk.i64_in _ (by omega)
  obtain ⟨G, hG⟩ : ∃ G, decGo s c true ⟨#[]⟩ a0 e0 = G := ⟨_, rfl⟩
  rw [hG] at hd3 hd4
  have HD3 := Lib.hid hd3; have HD4 := Lib.hid hd4
  have HRun := Lib.hid (show Run s c 0 true ⟨#[]⟩ a0 e0 [] G from ⟨rfl, by rw [← hG]; rfl, by rw [← hG]; rfl, by decide⟩)
  subst hf
  clear h0 hd3 hd4 hG
  go_enter Try.func50, Try.ntmps50
  go_wp2_with fail
  refine (rx_new w s hs).mono ?_
  rintro r w1 ⟨rfl, hb, hr⟩
  have HB1 := Lib.hid hb; have HR1 := Lib.hid hr
  have hpw := (Array.getElem?_eq_some_iff.1 hr.cell).1
  clear hb hr
  go_wp2_with fail
  refine (xNumber_ex w.heap.size s 0 0 w1 2 2 rfl (by decide) c 0 a0 e0 H0.out HR1.out).mono ?_
  rintro r w2 ⟨rfl, hk, hr⟩
  have HB2 := Lib.hid (HB1.out.trans (hk.below (Nat.le_refl _) HB1.out.size)); have HR2 := Lib.hid hr
  have hpw2 := (Array.getElem?_eq_some_iff.1 hr.cell).1
  clear hk hr
  go_wp2
  go_loopw [7, 8, 9] (fun tv lv iv wr => ∃ (j a e : Nat) (fb : Bool) (v : Value) (L : ByteArray) (pre : Ents), j ≤ c ∧ tv = v ∧ lv = .string L ∧ iv = .int .i64 j ∧ decide ((0 : Int) < (j : Int)) = !fb ∧ Run s c j fb L a e pre G ∧ IsRd TX wr w.heap.size s a e ∧ Own wr (w.heap.size + 1) v pre ∧ w.heap.size < wr.heap.size ∧ Below w.heap.size w wr) (fun _ _ iv _ => c - (intOf iv).toNat)
  case atStart => exact ⟨0, a0, e0, true, _, ⟨#[]⟩, [], Nat.zero_le _, rfl, rfl, rfl, rfl, HRun.out, HR2.out, Own.nil _ _, hpw2, HB2.out⟩
  case round =>
    obtain ⟨j, a, e, fb, v, L, pre, hj, rfl, rfl, rfl, hfb, hrn, hrd, hown, hpwr, hbel⟩ := hrel
    have HB := Lib.hid hbel
    have HRn := Lib.hid hrn; have HRd := Lib.hid hrd; have HO := Lib.hid hown
    have hls := hrn.short
    have hpl := hrn.len
    have hale := hrd.le
    clear hrn hrd hown hbel
    by_cases hlt : j < c
    · have hjz : decide ((j : Int) < (c : Int)) = true := by simp; omega
      have hjz2 : decide (j < c) = true := by simp; omega
      have HPL := Lib.hid hpl
      have hpl2 : pre.length ≤ 1024 := by omega
      have HF := Lib.hid (fun E (h : (entR s fb L a e).1 = E) (h0 : E ≠ 0) => (show decE s = E by rw [HD3.out]; exact HRn.out.fail hlt h h0))
      clear hpl
      obtain ⟨n, f, a1, e1, hN⟩ : ∃ v f b g, numR s a e 1 = ((v, f), (b, g)) := ⟨_, _, _, _, rfl⟩
      have hn : n < 256 := by have := numR_lt s a e 1; rw [hN] at this; exact this
      have hnw : IntKind.i64.wrap (n : Int) = (n : Int) := IntWalk.i64_in _ (by omega)
      have HN := Lib.hid hN
      by_cases c1 : f = 0 ∧ L.size < n
      · have HC := Lib.hid (HF.out 3 (ent_1 hN c1) (by decide))
        obtain ⟨c1a, c1b⟩ := c1
        have hff : ((f : Int) == 0) = true := by simp; omega
        have hd1 : decide ((L.size : Int) < (n : Int)) = true := by simp; omega
        have hd2 : decide (L.size < n) = true := by simpa using c1b
        clear hN c1a c1b
        go_wp2_with fail
        refine (xNumber_ex w.heap.size s a e wr 1 1 rfl (by decide) n f a1 e1 HN.out HRd.out).mono ?_
        rintro r w3 ⟨rfl, hk, hr⟩
        have HB3 := Lib.hid (HB.out.trans (hk.below (Nat.le_refl _) (Nat.le_of_lt hpwr)))
        have HO3 := Lib.hid (HO.out.kept hk (Nat.lt_succ_self _))
        have HRd3 := Lib.hid hr
        have hz3 : w.heap.size < w3.heap.size := (Array.getElem?_eq_some_iff.1 hr.cell).1
        clear hk hr
        go_wp2
        go_ret2
        exact decT_bad (E := 3) HC.out (by decide) HB3.out
      · obtain ⟨k, f1, a2, e2, hK⟩ : ∃ v f b g, numR s a1 e1 1 = ((v, f), (b, g)) := ⟨_, _, _, _, rfl⟩
        obtain ⟨t, g, a3, e3, hR⟩ : ∃ v f b g, rawR s a2 e2 k = ((v, f), (b, g)) := ⟨_, _, _, _, rfl⟩
        have hk8 : k < 256 := by have := numR_lt s a1 e1 1; rw [hK] at this; exact this
        have hkw : IntKind.i64.wrap (k : Int) = (k : Int) := IntWalk.i64_in _ (by omega)
        have HKK := Lib.hid hK; have HR := Lib.hid hR
        by_cases hg : g = 0
        · have hf0 := stick hN hK hR hg
          have hnl : n ≤ L.size := by by_cases h2 : L.size < n; exact absurd ⟨hf0, h2⟩ c1; omega
          have hff : ((f : Int) == 0) = true := by simp; omega
          have hd1 : decide ((L.size : Int) < (n : Int)) = false := by simp; omega
          have hd2 : decide (L.size < n) = false := by simp; omega
          have hgd : ((g : Int) != 0) = false := by simp; omega
          have htz : t.size ≤ 300 := by
            have := (numR_raw (n := k) (rd_le hale hN hK) hR).2
            omega
          have hez : (L.extract 0 n).size = n := by rw [ByteArray.size_extract]; omega
          have hsum2 : ¬ (9223372036854775807 < n + t.size) := by omega
          obtain ⟨Q, hQ⟩ : ∃ P, L.extract 0 n ++ t = P := ⟨_, rfl⟩
          have hQz : Q.size ≤ 1000 := by rw [← hQ]; simp only [ByteArray.size_append]; omega
          have HRP := Lib.hid hQ
          have HE3 := Lib.hid (fun hb => HF.out 3 (ent_3 (first := fb) hN c1 hK hR hg hb) (by decide))
          rw [hQ] at HE3
          obtain ⟨x, hx, a4, e4, hB⟩ : ∃ v f b g, numR s a3 e3 4 = ((v, f), (b, g)) := ⟨_, _, _, _, rfl⟩
          have hx32 : x < 4294967296 := by have := numR_lt s a3 e3 4; rw [hB] at this; exact this
          have hxw : IntKind.u32.wrap (x : Int) = (x : Int) := IntWalk.u32_in _ (by omega)
          have HBB := Lib.hid hB
          have HE4 := Lib.hid (fun hb => ent_4 (first := fb) hN c1 hK hR hg hb hB)
          have HE5 := Lib.hid (fun hb => ent_5 (first := fb) hN c1 hK hR hg hb hB)
          have HE6 := Lib.hid (fun hb => ent_6 (first := fb) hN c1 hK hR hg hb hB)
          rw [hQ] at HE4 HE5 HE6
          clear hN hK hR c1 hg hf0 hQ hB
          by_cases hb0 : 255 < Q.size
          · have HC := Lib.hid (HE3.out (.inl hb0))
            have hb1 : decide (255 < (Q.size : Int)) = true := by simp; omega
            clear hb0
            go_wp2_with fail
            refine (xNumber_ex w.heap.size s a e wr 1 1 rfl (by decide) n f a1 e1 HN.out HRd.out).mono ?_
            rintro r w3 ⟨rfl, hk, hr⟩
            have HB3 := Lib.hid (HB.out.trans (hk.below (Nat.le_refl _) (Nat.le_of_lt hpwr)))
            have HO3 := Lib.hid (HO.out.kept hk (Nat.lt_succ_self _))
            have HRd3 := Lib.hid hr
            have hz3 : w.heap.size < w3.heap.size := (Array.getElem?_eq_some_iff.1 hr.cell).1
            clear hk hr
            go_wp2_with fail
            refine (xNumber_ex w.heap.size s a1 e1 w3 1 1 rfl (by decide) k f1 a2 e2 HKK.out HRd3.out).mono ?_
            rintro r w4 ⟨rfl, hk, hr⟩
            have HB4 := Lib.hid (HB3.out.trans (hk.below (Nat.le_refl _) (Nat.le_of_lt hz3)))
            have HO4 := Lib.hid (HO3.out.kept hk (Nat.lt_succ_self _))
            have HRd4 := Lib.hid hr
            have hz4 : w.heap.size < w4.heap.size := (Array.getElem?_eq_some_iff.1 hr.cell).1
            clear hk hr
            go_wp2_with fail
            refine (xRaw_ex w.heap.size s a2 e2 w4 (k : Int) (by omega) (by omega) t g a3 e3 HR.out HRd4.out).mono ?_
            rintro r w5 ⟨rfl, hk, hr⟩
            have HB5 := Lib.hid (HB4.out.trans (hk.below (Nat.le_refl _) (Nat.le_of_lt hz4)))
            have HO5 := Lib.hid (HO4.out.kept hk (Nat.lt_succ_self _))
            have HRd5 := Lib.hid hr
            have hz5 : w.heap.size < w5.heap.size := (Array.getElem?_eq_some_iff.1 hr.cell).1
            clear hk hr
            go_upto_region 18 with (fail)
            rw [HRP.out]
            go_wp2
            go_ret2
            exact decT_bad (E := 3) HC.out (by decide) HB5.out
          · have hb1 : decide (255 < (Q.size : Int)) = false := by simp; omega
            by_cases hle : fb = false ∧ ltB L Q = false
            · have HC := Lib.hid (HE3.out (.inr (.inr hle)))
              obtain ⟨rfl, hlt2⟩ := hle
              have HLY := Lib.hid (leq_yes hlt2)
              have hj0 : decide ((0 : Int) < (j : Int)) = true := hfb
              have hj0n : decide (0 < j) = true := by simpa using hj0
              clear hb0 hlt2 hfb
              rcases HLY.out with hq1 | ⟨hq1, hq2⟩
              all_goals
                go_wp2_with fail
                refine (xNumber_ex w.heap.size s a e wr 1 1 rfl (by decide) n f a1 e1 HN.out HRd.out).mono ?_
                rintro r w3 ⟨rfl, hk, hr⟩
                have HB3 := Lib.hid (HB.out.trans (hk.below (Nat.le_refl _) (Nat.le_of_lt hpwr)))
                have HO3 := Lib.hid (HO.out.kept hk (Nat.lt_succ_self _))
                have HRd3 := Lib.hid hr
                have hz3 : w.heap.size < w3.heap.size := (Array.getElem?_eq_some_iff.1 hr.cell).1
                clear hk hr
                go_wp2_with fail
                refine (xNumber_ex w.heap.size s a1 e1 w3 1 1 rfl (by decide) k f1 a2 e2 HKK.out HRd3.out).mono ?_
                rintro r w4 ⟨rfl, hk, hr⟩
                have HB4 := Lib.hid (HB3.out.trans (hk.below (Nat.le_refl _) (Nat.le_of_lt hz3)))
                have HO4 := Lib.hid (HO3.out.kept hk (Nat.lt_succ_self _))
                have HRd4 := Lib.hid hr
                have hz4 : w.heap.size < w4.heap.size := (Array.getElem?_eq_some_iff.1 hr.cell).1
                clear hk hr
                go_wp2_with fail
                refine (xRaw_ex w.heap.size s a2 e2 w4 (k : Int) (by omega) (by omega) t g a3 e3 HR.out HRd4.out).mono ?_
                rintro r w5 ⟨rfl, hk, hr⟩
                have HB5 := Lib.hid (HB4.out.trans (hk.below (Nat.le_refl _) (Nat.le_of_lt hz4)))
                have HO5 := Lib.hid (HO4.out.kept hk (Nat.lt_succ_self _))
                have HRd5 := Lib.hid hr
                have hz5 : w.heap.size < w5.heap.size := (Array.getElem?_eq_some_iff.1 hr.cell).1
                clear hk hr
                go_upto_region 18 with (fail)
                rw [HRP.out]
                go_wp2
                go_ret2
                exact decT_bad (E := 3) HC.out (by decide) HB5.out
            · have hcase : (decide ((0 : Int) < (j : Int)) = false ∧ decide (0 < j) = false) ∨ ((decide ((0 : Int) < (j : Int)) = true ∧ decide (0 < j) = true) ∧ (Op.bytesLess Q.toList L.toList = false ∧ (Q.toList == L.toList) = false)) := by
                cases fb with
                | true => exact .inl ⟨hfb, by simpa using hfb⟩
                | false =>
                  cases hl2 : ltB L Q with
                  | false => exact absurd ⟨rfl, hl2⟩ hle
                  | true => exact .inr ⟨⟨hfb, by simpa using hfb⟩, leq_no hl2⟩
              have HCS := Lib.hid hcase
              have HAL := Lib.hid (fun W => rAlike L Q (by unfold maxLen; omega) (by unfold maxLen; omega) W)
              obtain ⟨m, hm⟩ : ∃ m, alkB L Q = m := ⟨_, rfl⟩
              rw [hm] at HAL
              by_cases hmn : m = n
              · have hnb : ¬ (255 < Q.size ∨ alkB L Q ≠ n ∨ (fb = false ∧ ltB L Q = false)) := by
                  rintro (h1 | h1 | h1)
                  · exact hb0 h1
                  · exact h1 (hm.trans hmn)
                  · exact hle h1
                have hb2 : ((m : Int) != (n : Int)) = false := by simp; omega
                have hb3 : (m != n) = false := by simp; omega
                have hb4 : ((m : Int) == (n : Int)) = true := by simp; omega
                by_cases hh : hx = 0
                · have hh1 : ((hx : Int) != 0) = false := by simp; omega
                  by_cases hx0 : x = 0
                  · have HC := Lib.hid (HF.out 3 (HE5.out hnb hh hx0) (by decide))
                    have hh2 : ((x : Int) == 0) = true := by simp; omega
                    subst hx0
                    clear hb0 hle hcase hm hmn hnb hh hfb
                    rcases HCS.out with ⟨hj0, hj0n⟩ | ⟨⟨hj0, hj0n⟩, hq1, hq2⟩
                    all_goals
                      go_wp2_with fail
                      refine (xNumber_ex w.heap.size s a e wr 1 1 rfl (by decide) n f a1 e1 HN.out HRd.out).mono ?_
                      rintro r w3 ⟨rfl, hk, hr⟩
                      have HB3 := Lib.hid (HB.out.trans (hk.below (Nat.le_refl _) (Nat.le_of_lt hpwr)))
                      have HO3 := Lib.hid (HO.out.kept hk (Nat.lt_succ_self _))
                      have HRd3 := Lib.hid hr
                      have hz3 : w.heap.size < w3.heap.size := (Array.getElem?_eq_some_iff.1 hr.cell).1
                      clear hk hr
                      go_wp2_with fail
                      refine (xNumber_ex w.heap.size s a1 e1 w3 1 1 rfl (by decide) k f1 a2 e2 HKK.out HRd3.out).mono ?_
                      rintro r w4 ⟨rfl, hk, hr⟩
                      have HB4 := Lib.hid (HB3.out.trans (hk.below (Nat.le_refl _) (Nat.le_of_lt hz3)))
                      have HO4 := Lib.hid (HO3.out.kept hk (Nat.lt_succ_self _))
                      have HRd4 := Lib.hid hr
                      have hz4 : w.heap.size < w4.heap.size := (Array.getElem?_eq_some_iff.1 hr.cell).1
                      clear hk hr
                      go_wp2_with fail
                      refine (xRaw_ex w.heap.size s a2 e2 w4 (k : Int) (by omega) (by omega) t g a3 e3 HR.out HRd4.out).mono ?_
                      rintro r w5 ⟨rfl, hk, hr⟩
                      have HB5 := Lib.hid (HB4.out.trans (hk.below (Nat.le_refl _) (Nat.le_of_lt hz4)))
                      have HO5 := Lib.hid (HO4.out.kept hk (Nat.lt_succ_self _))
                      have HRd5 := Lib.hid hr
                      have hz5 : w.heap.size < w5.heap.size := (Array.getElem?_eq_some_iff.1 hr.cell).1
                      clear hk hr
                      go_upto_region 18 with (fail)
                      rw [HRP.out]
                      go_wp2_with fail
                      refine (HAL.out _).mono ?_
                      rintro r w6 ⟨rfl, nd, rfl⟩
                      have HB6 := Lib.hid (bl_drewN HB5.out nd)
                      have HO6 := Lib.hid (show Own (w5.drewN nd) (w.heap.size + 1) _ pre from HO5.out)
                      have HRd6 := Lib.hid (HRd5.out.drewN' nd)
                      have hz6 : w.heap.size < (w5.drewN nd).heap.size := hz5
                      generalize w5.drewN nd = w6 at *
                      go_wp2_with fail
                      refine (xNumber_ex w.heap.size s a3 e3 w6 4 4 rfl (by decide) 0 hx a4 e4 HBB.out HRd6.out).mono ?_
                      rintro r w7 ⟨rfl, hk, hr⟩
                      have HB7 := Lib.hid (HB6.out.trans (hk.below (Nat.le_refl _) (Nat.le_of_lt hz6)))
                      have HO7 := Lib.hid (HO6.out.kept hk (Nat.lt_succ_self _))
                      have HRd7 := Lib.hid hr
                      have hz7 : w.heap.size < w7.heap.size := (Array.getElem?_eq_some_iff.1 hr.cell).1
                      clear hk hr
                      go_wp2
                      go_ret2
                      exact decT_bad (E := 3) HC.out (by decide) HB7.out
                  · have hh2 : ((x : Int) == 0) = false := by rw [beq_eq_false_iff_ne]; omega
                    have HSt := Lib.hid (HRn.out.step hlt (HE6.out hnb hh hx0))
                    subst hh
                    clear hb0 hle hcase hm hmn hnb hx0 hfb
                    rcases HCS.out with ⟨hj0, hj0n⟩ | ⟨⟨hj0, hj0n⟩, hq1, hq2⟩
                    all_goals
                      go_wp2_with fail
                      refine (xNumber_ex w.heap.size s a e wr 1 1 rfl (by decide) n f a1 e1 HN.out HRd.out).mono ?_
                      rintro r w3 ⟨rfl, hk, hr⟩
                      have HB3 := Lib.hid (HB.out.trans (hk.below (Nat.le_refl _) (Nat.le_of_lt hpwr)))
                      have HO3 := Lib.hid (HO.out.kept hk (Nat.lt_succ_self _))
                      have HRd3 := Lib.hid hr
                      have hz3 : w.heap.size < w3.heap.size := (Array.getElem?_eq_some_iff.1 hr.cell).1
                      clear hk hr
                      go_wp2_with fail
                      refine (xNumber_ex w.heap.size s a1 e1 w3 1 1 rfl (by decide) k f1 a2 e2 HKK.out HRd3.out).mono ?_
                      rintro r w4 ⟨rfl, hk, hr⟩
                      have HB4 := Lib.hid (HB3.out.trans (hk.below (Nat.le_refl _) (Nat.le_of_lt hz3)))
                      have HO4 := Lib.hid (HO3.out.kept hk (Nat.lt_succ_self _))
                      have HRd4 := Lib.hid hr
                      have hz4 : w.heap.size < w4.heap.size := (Array.getElem?_eq_some_iff.1 hr.cell).1
                      clear hk hr
                      go_wp2_with fail
                      refine (xRaw_ex w.heap.size s a2 e2 w4 (k : Int) (by omega) (by omega) t g a3 e3 HR.out HRd4.out).mono ?_
                      rintro r w5 ⟨rfl, hk, hr⟩
                      have HB5 := Lib.hid (HB4.out.trans (hk.below (Nat.le_refl _) (Nat.le_of_lt hz4)))
                      have HO5 := Lib.hid (HO4.out.kept hk (Nat.lt_succ_self _))
                      have HRd5 := Lib.hid hr
                      have hz5 : w.heap.size < w5.heap.size := (Array.getElem?_eq_some_iff.1 hr.cell).1
                      clear hk hr
                      go_upto_region 18 with (fail)
                      rw [HRP.out]
                      go_wp2_with fail
                      refine (HAL.out _).mono ?_
                      rintro r w6 ⟨rfl, nd, rfl⟩
                      have HB6 := Lib.hid (bl_drewN HB5.out nd)
                      have HO6 := Lib.hid (show Own (w5.drewN nd) (w.heap.size + 1) _ pre from HO5.out)
                      have HRd6 := Lib.hid (HRd5.out.drewN' nd)
                      have hz6 : w.heap.size < (w5.drewN nd).heap.size := hz5
                      generalize w5.drewN nd = w6 at *
                      go_wp2_with fail
                      refine (xNumber_ex w.heap.size s a3 e3 w6 4 4 rfl (by decide) x 0 a4 e4 HBB.out HRd6.out).mono ?_
                      rintro r w7 ⟨rfl, hk, hr⟩
                      have HB7 := Lib.hid (HB6.out.trans (hk.below (Nat.le_refl _) (Nat.le_of_lt hz6)))
                      have HO7 := Lib.hid (HO6.out.kept hk (Nat.lt_succ_self _))
                      have HRd7 := Lib.hid hr
                      have hz7 : w.heap.size < w7.heap.size := (Array.getElem?_eq_some_iff.1 hr.cell).1
                      clear hk hr
                      go_wp2_with (refine wpList_append_lies _ rfl (.tmp 106) (.tmp 111) 22 rfl (w.heap.size + 1) 39 i0 (.agg #[.string ⟨#[]⟩, .int .u32 0]) 2 24 Try.underlying22 hi hz0 hz1 hz2 rfl (by decide) _ pre.length (enCells pre) rfl (HO7.out.alloc _) ⟨w7.heap.size, 0, none⟩ 1 1 [.string Q, .int .u32 x] rfl rfl (cells_pair _ _ _ _) (one_pair _ _) (by decide) (by unfold maxLen; omega) (by omega) (by simp; omega) (w7.heap.size + 1) (by simp) ?_; intro gg cp w8 hown hg hat hlt5; have HO8 := Lib.hid (Own.push hown); have HB8 := Lib.hid (gb_to_below (bl_alloc HB7.out _) hg (bl_alloc HB7.out _).size (fun i hi => Nat.le_of_lt (HO7.out.lt i hi).1)); have HRd8 := Lib.hid ((HRd7.out.below (bl_alloc (Below.refl _ w7) (.cells #[.string Q, .int .u32 x] 39))).grown hg (fun i hi e => by have := (HO7.out.lt i hi).1; omega)); have hsz8 := hg.size; clear hown hg hat)
                      go_roundw
                      case rel => exact ⟨j + 1, a4, e4, false, _, Q, pre ++ [(Q, (x : Int))], by omega, rfl, rfl, by go_num, by first | (simp; done) | (simp; omega), HSt.out, HRd8.out, HO8.out, by simp at hsz8; omega, HB8.out⟩
                      case measure => simp [intOf]; omega
                · have hh1 : ((hx : Int) != 0) = true := by simp; omega
                  have HC := Lib.hid (HF.out hx (HE4.out hnb hh) hh)
                  have HNE := Lib.hid hh
                  clear hb0 hle hcase hm hmn hnb hh hfb
                  rcases HCS.out with ⟨hj0, hj0n⟩ | ⟨⟨hj0, hj0n⟩, hq1, hq2⟩
                  all_goals
                    go_wp2_with fail
                    refine (xNumber_ex w.heap.size s a e wr 1 1 rfl (by decide) n f a1 e1 HN.out HRd.out).mono ?_
                    rintro r w3 ⟨rfl, hk, hr⟩
                    have HB3 := Lib.hid (HB.out.trans (hk.below (Nat.le_refl _) (Nat.le_of_lt hpwr)))
                    have HO3 := Lib.hid (HO.out.kept hk (Nat.lt_succ_self _))
                    have HRd3 := Lib.hid hr
                    have hz3 : w.heap.size < w3.heap.size := (Array.getElem?_eq_some_iff.1 hr.cell).1
                    clear hk hr
                    go_wp2_with fail
                    refine (xNumber_ex w.heap.size s a1 e1 w3 1 1 rfl (by decide) k f1 a2 e2 HKK.out HRd3.out).mono ?_
                    rintro r w4 ⟨rfl, hk, hr⟩
                    have HB4 := Lib.hid (HB3.out.trans (hk.below (Nat.le_refl _) (Nat.le_of_lt hz3)))
                    have HO4 := Lib.hid (HO3.out.kept hk (Nat.lt_succ_self _))
                    have HRd4 := Lib.hid hr
                    have hz4 : w.heap.size < w4.heap.size := (Array.getElem?_eq_some_iff.1 hr.cell).1
                    clear hk hr
                    go_wp2_with fail
                    refine (xRaw_ex w.heap.size s a2 e2 w4 (k : Int) (by omega) (by omega) t g a3 e3 HR.out HRd4.out).mono ?_
                    rintro r w5 ⟨rfl, hk, hr⟩
                    have HB5 := Lib.hid (HB4.out.trans (hk.below (Nat.le_refl _) (Nat.le_of_lt hz4)))
                    have HO5 := Lib.hid (HO4.out.kept hk (Nat.lt_succ_self _))
                    have HRd5 := Lib.hid hr
                    have hz5 : w.heap.size < w5.heap.size := (Array.getElem?_eq_some_iff.1 hr.cell).1
                    clear hk hr
                    go_upto_region 18 with (fail)
                    rw [HRP.out]
                    go_wp2_with fail
                    refine (HAL.out _).mono ?_
                    rintro r w6 ⟨rfl, nd, rfl⟩
                    have HB6 := Lib.hid (bl_drewN HB5.out nd)
                    have HO6 := Lib.hid (show Own (w5.drewN nd) (w.heap.size + 1) _ pre from HO5.out)
                    have HRd6 := Lib.hid (HRd5.out.drewN' nd)
                    have hz6 : w.heap.size < (w5.drewN nd).heap.size := hz5
                    generalize w5.drewN nd = w6 at *
                    go_wp2_with fail
                    refine (xNumber_ex w.heap.size s a3 e3 w6 4 4 rfl (by decide) x hx a4 e4 HBB.out HRd6.out).mono ?_
                    rintro r w7 ⟨rfl, hk, hr⟩
                    have HB7 := Lib.hid (HB6.out.trans (hk.below (Nat.le_refl _) (Nat.le_of_lt hz6)))
                    have HO7 := Lib.hid (HO6.out.kept hk (Nat.lt_succ_self _))
                    have HRd7 := Lib.hid hr
                    have hz7 : w.heap.size < w7.heap.size := (Array.getElem?_eq_some_iff.1 hr.cell).1
                    clear hk hr
                    go_wp2
                    go_ret2
                    exact decT_bad HC.out HNE.out HB7.out
              · have HC := Lib.hid (HE3.out (.inr (.inl (fun h => hmn (hm.symm.trans h)))))
                have hb2 : ((m : Int) != (n : Int)) = true := by simp; omega
                have hb3 : (m != n) = true := by simpa using hmn
                have hb4 : ((m : Int) == (n : Int)) = false := by rw [beq_eq_false_iff_ne]; omega
                clear hb0 hle hcase hm hmn hfb
                rcases HCS.out with ⟨hj0, hj0n⟩ | ⟨⟨hj0, hj0n⟩, hq1, hq2⟩
                all_goals
                  go_wp2_with fail
                  refine (xNumber_ex w.heap.size s a e wr 1 1 rfl (by decide) n f a1 e1 HN.out HRd.out).mono ?_
                  rintro r w3 ⟨rfl, hk, hr⟩
                  have HB3 := Lib.hid (HB.out.trans (hk.below (Nat.le_refl _) (Nat.le_of_lt hpwr)))
                  have HO3 := Lib.hid (HO.out.kept hk (Nat.lt_succ_self _))
                  have HRd3 := Lib.hid hr
                  have hz3 : w.heap.size < w3.heap.size := (Array.getElem?_eq_some_iff.1 hr.cell).1
                  clear hk hr
                  go_wp2_with fail
                  refine (xNumber_ex w.heap.size s a1 e1 w3 1 1 rfl (by decide) k f1 a2 e2 HKK.out HRd3.out).mono ?_
                  rintro r w4 ⟨rfl, hk, hr⟩
                  have HB4 := Lib.hid (HB3.out.trans (hk.below (Nat.le_refl _) (Nat.le_of_lt hz3)))
                  have HO4 := Lib.hid (HO3.out.kept hk (Nat.lt_succ_self _))
                  have HRd4 := Lib.hid hr
                  have hz4 : w.heap.size < w4.heap.size := (Array.getElem?_eq_some_iff.1 hr.cell).1
                  clear hk hr
                  go_wp2_with fail
                  refine (xRaw_ex w.heap.size s a2 e2 w4 (k : Int) (by omega) (by omega) t g a3 e3 HR.out HRd4.out).mono ?_
                  rintro r w5 ⟨rfl, hk, hr⟩
                  have HB5 := Lib.hid (HB4.out.trans (hk.below (Nat.le_refl _) (Nat.le_of_lt hz4)))
                  have HO5 := Lib.hid (HO4.out.kept hk (Nat.lt_succ_self _))
                  have HRd5 := Lib.hid hr
                  have hz5 : w.heap.size < w5.heap.size := (Array.getElem?_eq_some_iff.1 hr.cell).1
                  clear hk hr
                  go_upto_region 18 with (fail)
                  rw [HRP.out]
                  go_wp2_with fail
                  refine (HAL.out _).mono ?_
                  rintro r w6 ⟨rfl, nd, rfl⟩
                  have HB6 := Lib.hid (bl_drewN HB5.out nd)
                  have HO6 := Lib.hid (show Own (w5.drewN nd) (w.heap.size + 1) _ pre from HO5.out)
                  have HRd6 := Lib.hid (HRd5.out.drewN' nd)
                  have hz6 : w.heap.size < (w5.drewN nd).heap.size := hz5
                  generalize w5.drewN nd = w6 at *
                  go_wp2
                  go_ret2
                  exact decT_bad (E := 3) HC.out (by decide) HB6.out
        · have HC := Lib.hid (HF.out g (ent_2 hN c1 hK hR hg) hg)
          have hgd : ((g : Int) != 0) = true := by simp; omega
          have hcase : ((f : Int) == 0) = false ∨ (((f : Int) == 0) = true ∧ (decide ((L.size : Int) < (n : Int)) = false ∧ decide (L.size < n) = false)) := by
            by_cases hf : f = 0
            · have : ¬ L.size < n := fun h2 => c1 ⟨hf, h2⟩
              exact .inr ⟨by simp; omega, by simp; omega, by simpa using this⟩
            · exact .inl (by simp; omega)
          have HCS := Lib.hid hcase
          have HG := Lib.hid hg
          clear hN hK hR c1 hg hcase hfb
          rcases HCS.out with hff | ⟨hff, hd1, hd2⟩
          all_goals
            go_wp2_with fail
            refine (xNumber_ex w.heap.size s a e wr 1 1 rfl (by decide) n f a1 e1 HN.out HRd.out).mono ?_
            rintro r w3 ⟨rfl, hk, hr⟩
            have HB3 := Lib.hid (HB.out.trans (hk.below (Nat.le_refl _) (Nat.le_of_lt hpwr)))
            have HO3 := Lib.hid (HO.out.kept hk (Nat.lt_succ_self _))
            have HRd3 := Lib.hid hr
            have hz3 : w.heap.size < w3.heap.size := (Array.getElem?_eq_some_iff.1 hr.cell).1
            clear hk hr
            go_wp2_with fail
            refine (xNumber_ex w.heap.size s a1 e1 w3 1 1 rfl (by decide) k f1 a2 e2 HKK.out HRd3.out).mono ?_
            rintro r w4 ⟨rfl, hk, hr⟩
            have HB4 := Lib.hid (HB3.out.trans (hk.below (Nat.le_refl _) (Nat.le_of_lt hz3)))
            have HO4 := Lib.hid (HO3.out.kept hk (Nat.lt_succ_self _))
            have HRd4 := Lib.hid hr
            have hz4 : w.heap.size < w4.heap.size := (Array.getElem?_eq_some_iff.1 hr.cell).1
            clear hk hr
            go_wp2_with fail
            refine (xRaw_ex w.heap.size s a2 e2 w4 (k : Int) (by omega) (by omega) t g a3 e3 HR.out HRd4.out).mono ?_
            rintro r w5 ⟨rfl, hk, hr⟩
            have HB5 := Lib.hid (HB4.out.trans (hk.below (Nat.le_refl _) (Nat.le_of_lt hz4)))
            have HO5 := Lib.hid (HO4.out.kept hk (Nat.lt_succ_self _))
            have HRd5 := Lib.hid hr
            have hz5 : w.heap.size < w5.heap.size := (Array.getElem?_eq_some_iff.1 hr.cell).1
            clear hk hr
            go_wp2
            go_ret2
            exact decT_bad HC.out HG.out HB5.out
    · obtain rfl : j = c := by omega
      have hjz : decide ((j : Int) < (j : Int)) = false := by simp
      have hjz2 : decide (j < j) = false := by simp
      have HG2 := Lib.hid (HRn.out.stop)
      by_cases hend : endR s a e = 0
      · have HFF := Lib.hid (show decE s = 0 by rw [HD3.out, HG2.out]; exact hend)
        have HEE := Lib.hid hend
        have HT := Lib.hid (show decT s = pre by rw [HD4.out HFF.out, HG2.out])
        clear hend
        go_wp2_with fail
        refine (xEnd w.heap.size s a e wr HRd.out).mono ?_
        rintro r w6 ⟨rfl, hk, hr⟩
        rw [HEE.out]
        have HO6 := Lib.hid (HO.out.kept hk (Nat.lt_succ_self _))
        have HB6 := Lib.hid (HB.out.trans (hk.below (Nat.le_refl _) (Nat.le_of_lt hpwr)))
        clear hk hr
        go_wp2
        go_ret2
        exact decT_good HFF.out HT.out (HO6.out.mono (Nat.le_succ _)) HB6.out
      · have HFF := Lib.hid (show decE s = endR s a e by rw [HD3.out, HG2.out])
        have hd0 : (((endR s a e : Nat) : Int) != 0) = true := by simp; omega
        have HNE := Lib.hid hend
        clear hend
        go_wp2_with fail
        refine (xEnd w.heap.size s a e wr HRd.out).mono ?_
        rintro r w6 ⟨rfl, hk, hr⟩
        have HB6 := Lib.hid (HB.out.trans (hk.below (Nat.le_refl _) (Nat.le_of_lt hpwr)))
        clear hk hr
        go_wp2
        go_ret2
        exact decT_bad HFF.out HNE.out HB6.out

set_option maxHeartbeats 1000000 in
set_option maxRecDepth 100000 in
theorem rDecodeF (s : ByteArray) (hs : s.size < 281474976710656) (w : World) (c f a0 e0 : Nat) (h0 : numR s 0 0 2 = ((c, f), (a0, e0))) (hf : f ≠ 0) :
    Calls Try.prog 50 #[.string s] w (DecTSaid s w) := by
  have HF := Lib.hid (dec_1 h0 hf)
  have H0 := Lib.hid h0
  have hfz : ((f : Int) == 0) = false := by rw [beq_eq_false_iff_ne]; omega
  have hfz2 : ((f : Int) != 0) = true := by simp; omega
  have HNE := Lib.hid hf
  clear h0 hf
  go_enter Try.func50, Try.ntmps50
  go_wp2_with fail
  refine (rx_new w s hs).mono ?_
  rintro r w1 ⟨rfl, hb, hr⟩
  have HB1 := Lib.hid hb; have HR1 := Lib.hid hr
  clear hb hr
  go_wp2_with fail
  refine (xNumber_ex w.heap.size s 0 0 w1 2 2 rfl (by decide) c f a0 e0 H0.out HR1.out).mono ?_
  rintro r w2 ⟨rfl, hk, hr⟩
  have HB2 := Lib.hid (HB1.out.trans (hk.below (Nat.le_refl _) HB1.out.size))
  clear hk hr
  go_wp2
  go_loopw [7, 8, 9] (fun tv lv iv wr => tv = .slice none 0 0 ∧ lv = .string ⟨#[]⟩ ∧ iv = .int .i64 0 ∧ Below w.heap.size w wr) (fun _ _ _ _ => 0)
  case atStart => exact ⟨rfl, rfl, rfl, HB2.out⟩
  case round =>
    obtain ⟨rfl, rfl, rfl, hb⟩ := hrel
    have HB := Lib.hid hb
    clear hb
    go_wp2
    go_ret2
    exact decT_bad HF.out HNE.out HB.out
set_option maxHeartbeats 1000000 in
set_option maxRecDepth 100000 in
theorem rDecodeC (s : ByteArray) (hs : s.size < 281474976710656) (w : World) (c f a0 e0 : Nat) (h0 : numR s 0 0 2 = ((c, f), (a0, e0))) (hf : f = 0) (hc : 1024 < c) :
    Calls Try.prog 50 #[.string s] w (DecTSaid s w) := by
  have HF := Lib.hid (dec_2 h0 hf hc)
  have H0 := Lib.hid h0
  have hfz : ((f : Int) == 0) = true := by simp; omega
  have hcz : decide ((1024 : Int) < (c : Int)) = true := by simp; omega
  have hcz2 : decide (1024 < c) = true := by simpa using hc
  clear h0 hf
  go_enter Try.func50, Try.ntmps50
  go_wp2_with fail
  refine (rx_new w s hs).mono ?_
  rintro r w1 ⟨rfl, hb, hr⟩
  have HB1 := Lib.hid hb; have HR1 := Lib.hid hr
  clear hb hr
  go_wp2_with fail
  refine (xNumber_ex w.heap.size s 0 0 w1 2 2 rfl (by decide) c f a0 e0 H0.out HR1.out).mono ?_
  rintro r w2 ⟨rfl, hk, hr⟩
  have HB2 := Lib.hid (HB1.out.trans (hk.below (Nat.le_refl _) HB1.out.size))
  clear hk hr
  go_wp2
  go_ret2
  exact decT_bad (E := 3) HF.out (by decide) HB2.out
theorem rDecode (s : ByteArray) (hs : s.size < 281474976710656) (w : World) : Calls Try.prog 50 #[.string s] w (DecTSaid s w) := by
  obtain ⟨c, f, a0, e0, h0⟩ : ∃ v f b g, numR s 0 0 2 = ((v, f), (b, g)) := ⟨_, _, _, _, rfl⟩
  by_cases hf : f = 0
  · by_cases hc : 1024 < c
    · exact rDecodeC s hs w c f a0 e0 h0 hf hc
    · exact rDecodeA s hs w c f a0 e0 h0 hf hc
  · exact rDecodeF s hs w c f a0 e0 h0 hf
end Go.Proofs.Ytdjpmgkcgpkkmaa
