/- WholeRoads, walked. -/
import Derived.Test.YtbhfbdcmamodcaaGreatDoorR49
import Derived.Deep.Cut
import Derived.Deep.CutRange
set_option linter.unusedVariables false
set_option linter.unusedSimpArgs false
namespace Go.Proofs.YtbhfbdcmamodcaaGreatDoor
open Go.RowKit Go.Maps TrMath FrMath PackMath SumMath
def Road (Wk w : World) (s x p : Nat) (steps : List StepP) (i : Nat) : Prop := ∃ E, RoadE Wk w s x p E (treesR steps i) (comsR steps i) (logR steps i) i
set_option maxHeartbeats 40000000 in
set_option maxRecDepth 100000 in
theorem wholeRoads (steps : List StepP) (sa : Option Addr) (sc : Nat) (hsc : steps.length ≤ sc) (hscm : sc ≤ maxLen) (ov : List Nat) (oa : Option Addr) (oc : Nat) (W0 : World) (hst : CellsAt W0 sa (steps.flatMap stepC)) (hok : ∀ y ∈ steps, StepOk W0 y) (hot : CellsAt W0 oa (ov.map fun p => .int .u8 (p : Nat))) (hov : ∀ b ∈ ov, b < 256) (hsyn : SynOk W0) :
    Calls Tryz.prog 3 #[.slice sa steps.length sc, .slice oa ov.length oc] W0 fun e w' => e = .returned (.bool true) ∧ Below W0.heap.size W0 w' := by
  obtain ⟨m, hm⟩ : ∃ m, min steps.length 25 = m := ⟨_, rfl⟩
  have hml : m ≤ steps.length := by omega
  have hm25 : m ≤ 25 := by omega
  have hmI : min (steps.length : Int) 25 = (m : Int) := by omega
  have hmIf : (if (steps.length : Int) ≤ 25 then (steps.length : Int) else 25) = (m : Int) := by split <;> omega
  have hscm' : sc ≤ 9223372036854775807 := hscm
  obtain ⟨FT, hFT⟩ : ∃ FT : ByteArray, fileT steps m = FT := ⟨_, rfl⟩
  obtain ⟨LT, hLT⟩ : ∃ LT : ByteArray, logT steps m = LT := ⟨_, rfl⟩
  obtain ⟨WA, hWA⟩ : ∃ WA, W0.alloc (.cells #[.string ⟨#[]⟩, .string ⟨#[]⟩] 9) = WA := ⟨_, rfl⟩
  obtain ⟨WB, hWB⟩ : ∃ WB, WA.alloc (.cells #[.string ⟨#[]⟩, .string ⟨#[]⟩] 9) = WB := ⟨_, rfl⟩
  have hbA : Below W0.heap.size W0 WA := by rw [← hWA]; exact bl_alloc (Below.refl _ _) _
  have hbB : Below WA.heap.size WA WB := by rw [← hWB]; exact bl_alloc (Below.refl _ _) _
  have hzA : WA.heap.size = W0.heap.size + 1 := by rw [← hWA]; simp
  have hzB : WB.heap.size = W0.heap.size + 2 := by rw [← hWB]; simp <;> omega
  have hxA : WB.heap[W0.heap.size]? = some (.cells #[.string ⟨#[]⟩, .string ⟨#[]⟩] 9 (0, 0)) := by rw [hbB.block _ (by omega), ← hWA]; exact heap_alloc_new _ _
  have hxB : WB.heap[W0.heap.size + 1]? = some (.cells #[.string ⟨#[]⟩, .string ⟨#[]⟩] 9 (0, 0)) := by rw [← hzA, ← hWB]; exact heap_alloc_new _ _
  have hb0B : Below W0.heap.size W0 WB := hbA.trans (hbB.mono (by omega))
  have HWA := Lib.hid hWA; have HWB := Lib.hid hWB; have HB0 := Lib.hid hb0B; have HXA := Lib.hid hxA; have HXB := Lib.hid hxB; have HZB := Lib.hid hzB
  have HST := Lib.hid hst; have HOK := Lib.hid hok; have HSY := Lib.hid hsyn; have HM := Lib.hid hm; have HOT := Lib.hid hot; have HOV := Lib.hid hov; have HFT := Lib.hid hFT; have HLT := Lib.hid hLT
  clear hWA hWB hbA hbB hzA hzB hxA hxB hb0B hst hok hsyn hm hot hov hFT hLT
  go_enter Tryz.func3, Tryz.ntmps3
  go_upto_region 4 with (fail)
  rw [HWA.out, HWB.out]
  have HO0 := Lib.hid (show RoadO W0 WB 0 FT LT from ⟨HXA.out, HXB.out, HB0.out, by rw [HZB.out]; exact Nat.le_refl _⟩)
  clear HWA HWB HXA HXB HB0 HZB
  go_wp2_with fail
  go_loopw [30] (fun iv wr => ∃ kk : Nat, kk ≤ 2 ∧ iv = .int .i64 kk ∧ RoadO W0 wr kk FT LT) (fun iv _ => 2 - (intOf iv).toNat)
  case atStart => exact ⟨0, Nat.zero_le _, rfl, HO0.out⟩
  case round =>
    obtain ⟨kk, hkk, rfl, hro⟩ := hrel
    obtain ⟨Wk, hWk⟩ : ∃ Wk : World, Wk = wr := ⟨_, rfl⟩
    subst hWk
    by_cases hlt : kk < 2
    · obtain ⟨W1, hW1⟩ : ∃ W1, ((Wk.alloc (.map #[] 0)).alloc (.map #[] 0)).alloc (.cells #[.int .i64 (16777216 : Nat), .int .i64 0, .map (some Wk.heap.size), .map (some (Wk.heap.size + 1)), .slice none 0 0, .int .i64 0, .bool false] 73) = W1 := ⟨_, rfl⟩
      have HNew := Lib.hid (show Calls Tryz.prog 5 #[.int .i64 16777216] Wk fun e w' => e = .returned (.tuple #[.pointer (some ⟨Wk.heap.size + 2, 0, none⟩), .int .i64 0]) ∧ w' = W1 from (sNew 16777216 (by omega) Wk).mono fun e w' ⟨h1, h2⟩ => ⟨h1, h2.trans hW1⟩)
      have hD1 := disk_new Wk
      rw [hW1] at hD1
      have hb1 : Below Wk.heap.size Wk W1 := by rw [← hW1]; exact bl_alloc (bl_alloc (bl_alloc (Below.refl _ _) _) _) _
      have HOp := Lib.hid (sOpenNew (Wk.heap.size + 2) 0 _ W1 hD1 (by omega))
      have HB1 := Lib.hid hb1; have HRO := Lib.hid hro; have HLK := Lib.hid hlt
      clear hW1 hb1 hD1 hro HO0
      go_wp2_with fail
      (with_reducible refine HNew.out.mono ?_)
      rintro e w1 ⟨rfl, hw1⟩
      rw [hw1]
      clear hw1
      go_wp2_with fail
      (with_reducible refine HOp.out.mono ?_)
      rintro e w2 ⟨s, F2, S2, rfl, hD2, hS2, hp2, ht2, hc2, hap2, hg2, hlow2⟩
      have HON := Lib.hid (wOpenNew hD2 (by simp))
      obtain ⟨W4, hW4⟩ : ∃ W4, w2.alloc (.cells #[.pointer (some ⟨Wk.heap.size + 2, 0, none⟩), .slice none 0 0, .slice none 0 0] 97) = W4 := ⟨_, rfl⟩
      have hb4 : Below w2.heap.size w2 W4 := by rw [← hW4]; exact bl_alloc (Below.refl _ _) _
      have hx4 : W4.heap[w2.heap.size]? = some (.cells #[.pointer (some ⟨Wk.heap.size + 2, 0, none⟩), .slice none 0 0, .slice none 0 0] 97 (0, 0)) := by rw [← hW4]; exact heap_alloc_new _ _
      have hFlo : ∀ j, F2 j → Wk.heap.size ≤ j := fun j hj => by
        rcases hg2.sub j (.inl hj) with e | e
        · omega
        · have := HB1.out.size; omega
      have hSlo : ∀ j ∈ S2.own s, Wk.heap.size ≤ j := fun j hj => by have := hlow2 j hj; have := HB1.out.size; omega
      have hFl := hD2.lt
      have hSl := hS2.lt
      have hb02 : Below Wk.heap.size Wk w2 := HB1.out.trans (hg2.upd.below (fun j e => by rcases e with e | e <;> omega) HB1.out.size)
      have hz02 := hb02.size
      have hb04 : Below Wk.heap.size Wk W4 := hb02.trans (hb4.mono hz02)
      have hwz := HRO.out.2.2.1.size
      have hsy4 := HSY.out.stays ((hb04.block _ (Nat.lt_of_lt_of_le HSY.out.lt hwz)).trans (HRO.out.2.2.1.block _ HSY.out.lt))
      have hWh := whole_start (w := W4) (B := Wk.heap.size) (x := w2.heap.size) (p := Wk.heap.size + 2) (hD2.below hb4) (hS2.below hb4) hp2 ht2 hc2 hap2 hx4 (fun e => by have := hFl _ e; omega) (fun e => by have := hSl _ e; omega) hsy4 (Nat.lt_of_lt_of_le HSY.out.lt hwz) hFlo hSlo (by omega)
      have HR0 := Lib.hid (show Road Wk W4 s w2.heap.size (Wk.heap.size + 2) steps 0 from ⟨_, [], 0, hWh, hb04⟩)
      have HW4 := Lib.hid hW4
      clear hD2 hS2 hp2 ht2 hc2 hap2 hg2 hlow2 hW4 hb4 hx4 hFlo hSlo hFl hSl hb02 hz02 hb04 hsy4 hWh hwz
      go_wp2_with fail
      (with_reducible refine HON.out.mono ?_)
      rintro e w4 ⟨rfl, hw4⟩
      rw [HW4.out] at hw4
      rw [hw4]
      clear hw4 HON HNew HOp HW4
      go_upto_region 12 with (fail)
      generalize w2.heap.size = x0 at *
      generalize Wk.heap.size + 2 = p at *
      go_wp2_with fail
      go_loopw [12, 52] (fun xv iv wr => ∃ (i x : Nat), i ≤ m ∧ xv = .pointer (some ⟨x, 0, none⟩) ∧ iv = .int .i64 i ∧ Road Wk wr s x p steps i) (fun _ iv _ => m - (intOf iv).toNat)
      case atStart => exact ⟨0, x0, Nat.zero_le _, rfl, rfl, HR0.out⟩
      case round =>
        obtain ⟨i, x, hi, rfl, rfl, hroad⟩ := hrel
        obtain ⟨wq, hwq⟩ : ∃ wq : World, wq = wr := ⟨_, rfl⟩
        subst hwq
        by_cases hlt : i < m
        · obtain ⟨E, hR⟩ := hroad
          have hjs : i < steps.length := by omega
          have hbq : Below W0.heap.size W0 wq := HRO.out.2.2.1.trans (hR.bel.mono HRO.out.2.2.1.size)
          obtain ⟨b, off, rfl, _, hce⟩ := (HST.out.stays (x := wq) (fun b off e h0 => by
            obtain ⟨b', off', e1, e2, _⟩ := HST.out.elem stepW hjs (by decide)
            rw [e] at e1
            cases e1
            exact hbq.block b e2) hbq.size).elem stepW hjs (by decide)
          have hyok := HOK.out _ (List.getElem_mem hjs)
          have hyd : steps.getD i stepZ = steps[i] := by rw [List.getD_eq_getElem?_getD, List.getElem?_eq_getElem hjs]; rfl
          obtain ⟨y, hy⟩ : ∃ y, steps[i] = y := ⟨_, rfl⟩
          rw [hy] at hce hyok hyd
          obtain ⟨A, hA⟩ : ∃ A, goodF y = A := ⟨_, rfl⟩
          obtain ⟨C, hC⟩ : ∃ C, comF y i = C := ⟨_, rfl⟩
          have HT1 := Lib.hid (show treesR steps (i + 1) = treesR steps i ++ [A] by rw [treesR, hyd, hA])
          have HC1 := Lib.hid (show comsR steps (i + 1) = comsR steps i ++ [C] by rw [comsR, hyd, hC])
          have HL1 := Lib.hid (show logR steps (i + 1) = logR steps i ++ recB 1 (treeB A) ++ recB 2 (comB C) by rw [logR, hyd, hA, hC])
          have HSM := Lib.hid (logR_small steps i (by omega) y)
          have HSM2 := Lib.hid ((logR_small steps (i + 1) (by omega) y).1)
          have HGA := Lib.hid (goodF_ok (y := y) hyok.tree.choose_spec.choose_spec.2.2.2.2)
          have HGC := Lib.hid (comF_ok y i (by omega))
          have hCC : C = (parF i (natsF y), i) := hC.symm
          have hAA : goodL (y.tree.take 30) = A := hA
          rw [hA] at HSM HGA
          rw [hC] at HGC
          unfold natsF at hCC
          obtain ⟨ytv, ypv, ytree, ypars, yidx, ynm, yat⟩ := y
          obtain ⟨ta, tc, htv, htl, htm, hten, htw⟩ := hyok.tree
          obtain ⟨pa, pc, hpv, hpl, hpm, hpi⟩ := hyok.pars
          obtain ⟨bs, hbs, hb8, hbc⟩ := bytes_nat hpi
          simp only at hpv hpl hpi hbs htv htl hten htw hCC hAA
          subst hpv htv
          rw [nats_of hbs] at hCC
          subst hCC
          obtain ⟨yi, hyi⟩ := Int.eq_ofNat_of_zero_le hyok.idx.1
          simp only at hyi
          subst hyi
          have hbl : ypars.length = bs.length := by rw [hbs, List.length_map]
          have d0 := hce 0 _ rfl; have d1 := hce 1 _ rfl; have d2 := hce 2 _ rfl; have d3 := hce 3 _ rfl; have d4 := hce 4 _ rfl
          simp only [Nat.add_zero] at d0 d1 d2 d3 d4
          rw [hbl] at d1 hpl
          obtain ⟨WY, hWY⟩ : ∃ WY, wq.alloc (.cells #[.slice ta ytree.length tc, .slice pa bs.length pc, .int .u8 ((yi : Nat) : Int), .int .u8 ynm, .int .u16 yat] 37) = WY := ⟨_, rfl⟩
          have hbY : Below wq.heap.size wq WY := by rw [← hWY]; exact bl_alloc (Below.refl _ _) _
          have hsY : WY.heap[wq.heap.size]? = some (.cells #[.slice ta ytree.length tc, .slice pa bs.length pc, .int .u8 ((yi : Nat) : Int), .int .u8 ynm, .int .u16 yat] 37 (0, 0)) := by rw [← hWY]; exact heap_alloc_new _ _
          have hzY := (Array.getElem?_eq_some_iff.1 hsY).1
          have hb0Y : Below W0.heap.size W0 WY := hbq.trans (hbY.mono hbq.size)
          have HGo := Lib.hid (lGood30 ytree (fun e he => htw e (List.mem_of_mem_take he)) ta tc htl htm (by omega) WY (hten.below hb0Y))
          rw [hAA] at HGo
          have HPa := Lib.hid (fun W (hb : Below W0.heap.size W0 W) => zParents (.slice ta ytree.length tc) pa pc bs hb8 hpl hpm ((yi : Nat) : Int) ynm yat i (by omega) W (hbc.stays (fun b off e h0 => by
            obtain ⟨b', off', e1, e2, _⟩ := hbc 0 _ (List.getElem?_eq_getElem h0)
            rw [e] at e1
            cases e1
            exact hb.block b e2) hb.size))
          have HRY := Lib.hid (hR.below hbY)
          have HEL := Lib.hid (show ∀ j, E j → Wk.heap.size ≤ j ∧ j < wq.heap.size from hR.lt)
          have HWY := Lib.hid hWY; have HSY2 := Lib.hid hsY; have HZY := Lib.hid hzY; have HB0Y := Lib.hid hb0Y
          have hyi5 : yi < 256 := by have := hyok.idx.2; simp only at this; omega
          have y0 : WY.cell? ⟨wq.heap.size, 0, none⟩ = some (.slice ta ytree.length tc) := by rw [cell_of_row _ _ _ _ _ _ hsY]; rfl
          clear hR hbq hce hyok hyd hy hA hC hAA hpi hbs hbc hb8 hbl hpl hpm htl htm hten htw hWY hbY hsY hzY hb0Y HR0
          go_upto_region 15 with (fail)
          rw [HWY.out]
          go_wp2_with fail
          (with_reducible refine HGo.out.mono ?_)
          rintro e w5 ⟨v5, rfl, ho5, hb5⟩
          obtain ⟨ga, gc, rfl, hen5, _⟩ := ho5.sl
          have hzY := HZY.out
          have HAT := Lib.hid (rAddTree (HRY.out.below hb5) HSM.out.1 (by rw [comsR_len]; omega) (by rw [treesR_len]; omega) A ga gc hen5 HGA.out (fun b' off' e => by
            have h1 := (ho5.lt b' (by rw [e]; rfl)).1
            intro e2
            have := (HEL.out b' e2).2
            omega) (fun b' off' e => (ho5.lt b' (by rw [e]; rfl)).2))
          rw [treesR_len] at HAT
          have HB5 := Lib.hid hb5
          clear ho5 hen5 hb5 hzY y0
          go_wp2_with fail
          (with_reducible refine HAT.out.mono ?_)
          rintro e w6 ⟨rfl, E6, hR6, hg6⟩
          have hb56 := HB5.out
          have hzY := HZY.out
          have h5z := hb56.size
          have hs6 : w6.heap[wq.heap.size]? = some (.cells #[.slice ta ytree.length tc, .slice pa bs.length pc, .int .u8 ((yi : Nat) : Int), .int .u8 ynm, .int .u16 yat] 37 (0, 0)) :=
            ((hg6.keeps (by omega) (fun e => by have := (HEL.out _ e).2; omega)).trans (hb56.block _ hzY)).trans HSY2.out
          have hb06 : Below W0.heap.size W0 w6 := HRO.out.2.2.1.trans (hR6.bel.mono HRO.out.2.2.1.size)
          have HPb := Lib.hid (HPa.out w6 hb06)
          have HR6 := Lib.hid hR6; have HS6 := Lib.hid hs6; have HB06 := Lib.hid hb06; have HE6 := Lib.hid (show ∀ j, E6 j → j < wq.heap.size ∨ wq.heap.size < j from fun j hj => by
            rcases hg6.sub j hj with e | e
            · have := (HEL.out j e).2; omega
            · omega)
          have y0 : w6.cell? ⟨wq.heap.size, 0, none⟩ = some (.slice ta ytree.length tc) := by rw [cell_of_row _ _ _ _ _ _ hs6]; rfl
          have y1 : w6.cell? ⟨wq.heap.size, 1, none⟩ = some (.slice pa bs.length pc) := by rw [cell_of_row _ _ _ _ _ _ hs6]; rfl
          have y2 : w6.cell? ⟨wq.heap.size, 2, none⟩ = some (.int .u8 ((yi : Nat) : Int)) := by rw [cell_of_row _ _ _ _ _ _ hs6]; rfl
          have y3 : w6.cell? ⟨wq.heap.size, 3, none⟩ = some (.int .u8 ynm) := by rw [cell_of_row _ _ _ _ _ _ hs6]; rfl
          have y4 : w6.cell? ⟨wq.heap.size, 4, none⟩ = some (.int .u16 yat) := by rw [cell_of_row _ _ _ _ _ _ hs6]; rfl
          clear hR6 hg6 hb56 hzY h5z hs6 hb06 d0 d1 d2 d3 d4
          go_wp2_with fail
          (with_reducible refine HPb.out.mono ?_)
          rintro e w7 ⟨v7, rfl, ho7, hb7⟩
          obtain ⟨hpl16, hplow, hpnd⟩ := parF_ok i bs
          generalize parF i bs = l at *
          obtain ⟨va, vc, rfl, hvc, hvl, hvm, hvb, _⟩ := ho7.sl
          have HAC := Lib.hid (rAddCommit (HR6.out.below hb7) HSM.out.2 (by rw [comsR_len]; omega) (l, i) va vc hvc hvl hvm HGC.out (fun y hy => by rw [comsR_len]; exact hplow y hy) (by rw [List.length_append, treesR_len]; simp) (fun b' off' e => by
            have h1 := (ho7.lt b' (hvb b' off' e)).1
            intro e2
            have := (HR6.out.lt b' e2).2
            omega) (fun b' off' e => (ho7.lt b' (hvb b' off' e)).2))
          rw [comsR_len, ← HT1.out, ← HC1.out, ← HL1.out] at HAC
          have HB7 := Lib.hid hb7
          clear hvc hvb ho7 hb7 hplow hpnd y0 y1 y2 y3 y4
          go_wp2_with fail
          (with_reducible refine HAC.out.mono ?_)
          rintro e w8 ⟨rfl, E8, hR8, hg8⟩
          have hb78 := HB7.out
          have hzs := (Array.getElem?_eq_some_iff.1 HS6.out).1
          have h7z := hb78.size
          have hs8 : w8.heap[wq.heap.size]? = some (.cells #[.slice ta ytree.length tc, .slice pa bs.length pc, .int .u8 ((yi : Nat) : Int), .int .u8 ynm, .int .u16 yat] 37 (0, 0)) :=
            ((hg8.keeps (by omega) (fun e => by rcases HE6.out _ e with h | h <;> omega)).trans (hb78.block _ hzs)).trans HS6.out
          have y2 : w8.cell? ⟨wq.heap.size, 2, none⟩ = some (.int .u8 ((yi : Nat) : Int)) := by rw [cell_of_row _ _ _ _ _ _ hs8]; rfl
          have hb08 : Below W0.heap.size W0 w8 := HRO.out.2.2.1.trans (hR8.bel.mono HRO.out.2.2.1.size)
          have HR8 := Lib.hid hR8; have HB08 := Lib.hid hb08
          clear hR8 hg8 hb78 hzs h7z hs8 hb08 HAC HAT HGo HPa HPb HR6 HS6 HRY HB06 HE6 HB5 HB7 HEL
          go_upto_region 20 with (fail)
          go_cut [99] from 53 to 140 (fun c wr => ∃ g : Bool, (g = true → 0 < ov.length) ∧ c = .bool g ∧ w8 = wr)
          case first =>
            by_cases hk1 : kk = 1
            · subst hk1
              by_cases ho : 0 < ov.length
              · have ho1 : (0 : Int) < (ov.length : Int) := by omega
                go_wp2
                go_meet
                case rel => exact ⟨true, fun _ => ho, rfl, rfl⟩
              · have ho1 : ov.length = 0 := by omega
                go_wp2
                go_meet
                case rel => exact ⟨false, (fun h => Bool.noConfusion h), rfl, rfl⟩
            · obtain rfl : kk = 0 := by have := HLK.out; omega
              go_wp2
              go_meet
              case rel => exact ⟨false, (fun h => Bool.noConfusion h), rfl, rfl⟩
          case rest =>
            obtain ⟨g, hgo, rfl, rfl⟩ := hcut
            go_upto_if 99 with (fail)
            go_cut [19] from 53 to 140 (fun lv wr => ∃ what : Nat, what < 256 ∧ lv = .int .u8 (what : Nat) ∧ w8 = wr)
            case first =>
              cases g
              · go_wp2
                go_meet
                case rel => exact ⟨yi, hyi5, rfl, rfl⟩
              · have h0 := hgo rfl
                have hlo : i % ov.length < ov.length := Nat.mod_lt _ h0
                obtain ⟨ob, oo, rfl, _, q1⟩ := (HOT.out.stays (x := w8) (fun b off e h0 => by
                  obtain ⟨b', off', e1, e2, _⟩ := HOT.out 0 _ (List.getElem?_eq_getElem h0)
                  rw [e] at e1
                  cases e1
                  exact HB08.out.block b e2) HB08.out.size) (i % ov.length) _ (List.getElem?_eq_getElem (by rw [List.length_map]; exact hlo))
                rw [List.getElem_map] at q1
                have hmd : (i : Int) % (ov.length : Int) = ((i % ov.length : Nat) : Int) := by omega
                have hov1 := HOV.out _ (List.getElem_mem hlo)
                obtain ⟨ow, how⟩ : ∃ ow, ov[i % ov.length] = ow := ⟨_, rfl⟩
                rw [how] at q1 hov1
                clear how
                obtain ⟨rr, hrr⟩ : ∃ rr, i % ov.length = rr := ⟨_, rfl⟩
                rw [hrr] at hmd q1 hlo
                have hmd2 : Int.tmod (i : Int) (ov.length : Int) = (rr : Int) := by rw [Int.tmod_eq_emod_of_nonneg (by omega)]; exact hmd
                have hmd3 : (0 : Int) ≤ (rr : Int) := by omega
                have hmd4 : (rr : Int) < (ov.length : Int) := by omega
                clear hrr
                go_wp2
                go_meet
                case rel => exact ⟨ow, hov1, rfl, rfl⟩
            case rest =>
              obtain ⟨what, hwhat, rfl, rfl⟩ := hcut
              have hT1 := HSM2.out
              have HEnd := Lib.hid (show ∀ (x' : Nat) (w9 : World) (n : Nat), n ≤ i + 1 → (∃ E', RoadE Wk w9 s x' p E' (treesR steps (i + 1)) (comsR steps (i + 1)) (logR steps (i + 1)) n) → Road Wk w9 s x' p steps (i + 1) from fun x' w9 n hn ⟨E', h⟩ => ⟨E', h.more hn⟩)
              obtain ⟨r4, hr4⟩ : ∃ r, what % 4 = r := ⟨_, rfl⟩
              have hr4b : r4 < 4 := by omega
              have e4 : ((what : Nat) : Int) % 4 = (r4 : Int) := by omega
              have e4b : Int.tmod ((what : Nat) : Int) 4 = (r4 : Int) := by rw [Int.tmod_eq_emod_of_nonneg (by omega)]; exact e4
              go_upto_region 23 with (fail)
              clear e4 e4b
              obtain h | h | h | h : r4 = 0 ∨ r4 = 1 ∨ r4 = 2 ∨ r4 = 3 := by omega
              · subst h
                clear hr4
                go_upto_region 24 with (fail)
                obtain ⟨q4, hq4⟩ : ∃ r, what / 4 = r := ⟨_, rfl⟩
                obtain ⟨r9, hr9⟩ : ∃ r, q4 % 9 = r := ⟨_, rfl⟩
                have f1 : ((what : Nat) : Int) / 4 = (q4 : Int) := by omega
                have f1b : Int.tdiv ((what : Nat) : Int) 4 = (q4 : Int) := by rw [Int.tdiv_eq_ediv_of_nonneg (by omega)]; exact f1
                have f2 : ((q4 : Nat) : Int) % 9 = (r9 : Int) := by omega
                have f2b : Int.tmod ((q4 : Nat) : Int) 9 = (r9 : Int) := by rw [Int.tmod_eq_emod_of_nonneg (by omega)]; exact f2
                have f3 : r9 ≤ 8 := by omega
                obtain ⟨h9, hh9⟩ : ∃ h, 1 + r9 = h := ⟨_, rfl⟩
                have f4 : (1 : Int) + (r9 : Int) = (h9 : Int) := by omega
                have f5 : IntKind.i64.wrap ((1 : Int) + (r9 : Int)) = (h9 : Int) := by rw [f4]; exact IntWalk.i64_in _ (by omega)
                have HUp := Lib.hid (rUpdateR HR8.out hT1 (by rw [comsR_len]; omega) (by omega) h9 (by omega) (by omega))
                unfold srcV at HUp
                have g1 : IntKind.u8.wrap (q4 : Int) = (q4 : Int) := by rw [IntKind.wrap_u8]; omega
                have g2 : IntKind.i64.wrap (q4 : Int) = (q4 : Int) := IntWalk.i64_in _ (by omega)
                have g3 : IntKind.i64.wrap (r9 : Int) = (r9 : Int) := IntWalk.i64_in _ (by omega)
                clear hq4 hr9 hh9 hmI hmIf hscm'
                go_wp2_with fail
                (with_reducible refine HUp.out.mono ?_)
                rintro e w9 ⟨rfl, E9, hR9⟩
                have HR9 := Lib.hid hR9
                clear hR9
                go_wp2
                go_roundw
                case rel => exact ⟨i + 1, x, by omega, rfl, by go_num, HEnd.out x w9 (i + 1) (by omega) ⟨_, HR9.out⟩⟩
                case measure => simp [intOf]; omega
              · subst h
                have HUs := Lib.hid (zUsual w8)
                have HCo := Lib.hid (show ∀ W, Below w8.heap.size w8 W → Calls Tryz.prog 13 #[.pointer (some ⟨x, 0, none⟩), srcV s, usualV] W fun e w' => e = .returned (.int .i64 0) ∧ ∃ E', RoadE Wk w' s x p E' (treesR steps (i + 1)) (comsR steps (i + 1)) (logR steps (i + 1)) (i + 1) from fun W hW => (rCompact (HR8.out.below hW) hT1 (by rw [comsR_len]; omega) (by rw [comsR_len]; omega) (by omega)).mono fun e w' ⟨h1, E', h2, h3⟩ => ⟨h1, E', _, _, h2, h3⟩)
                unfold srcV at HCo
                clear hr4
                go_wp2_with fail
                (with_reducible refine HUs.out.mono ?_)
                rintro e w9 ⟨rfl, hb9⟩
                have HC9 := Lib.hid (HCo.out w9 hb9)
                clear hb9
                go_wp2_with fail
                (with_reducible refine HC9.out.mono ?_)
                rintro e w10 ⟨rfl, E9, hR9⟩
                have HR9 := Lib.hid hR9
                clear hR9
                go_wp2
                go_roundw
                case rel => exact ⟨i + 1, x, by omega, rfl, by go_num, HEnd.out x w10 (i + 1) (by omega) ⟨_, HR9.out⟩⟩
                case measure => simp [intOf]; omega
              · subst h
                have HCm := Lib.hid (rCommits HR8.out)
                have HOi := Lib.hid (rOpen HR8.out (by rw [comsR_len]; omega))
                clear hr4
                go_wp2_with fail
                (with_reducible refine HCm.out.mono ?_)
                rintro e w9 ⟨rfl, rfl⟩
                go_wp2_with fail
                (with_reducible refine HOi.out.mono ?_)
                rintro e w10 ⟨rfl, E9, hR9⟩
                have HR9 := Lib.hid hR9
                clear hR9
                go_wp2
                go_roundw
                case rel => exact ⟨i + 1, _, by omega, rfl, by go_num, HEnd.out _ w10 i (by omega) ⟨_, HR9.out⟩⟩
                case measure => simp [intOf]; omega
              · subst h
                clear hr4
                go_wp2
                go_roundw
                case rel => exact ⟨i + 1, x, by omega, rfl, by go_num, HEnd.out x w8 i (by omega) ⟨_, HR8.out⟩⟩
                case measure => simp [intOf]; omega
        · obtain rfl : m = i := by omega
          obtain ⟨E, hR⟩ := hroad
          have HUs := Lib.hid (zUsual wq)
          have HCo := Lib.hid (fun W (hW : Below wq.heap.size wq W) => roadEnd hm25 ⟨E, hR.below hW⟩)
          unfold srcV at HCo
          clear hR HR0
          go_wp2_with fail
          (with_reducible refine HUs.out.mono ?_)
          rintro e w9 ⟨rfl, hb9⟩
          have HC9 := Lib.hid (HCo.out w9 hb9)
          clear hb9
          go_wp2_with fail
          (with_reducible refine HC9.out.mono ?_)
          rintro e w10 ⟨rfl, hE⟩
          have HL10 := Lib.hid (hE.len hm25)
          clear hE HC9
          go_wp2_with fail
          (with_reducible refine HL10.out.mono ?_)
          rintro e w11 ⟨rfl, hE⟩
          obtain ⟨F, v, q, hED⟩ := hE.disk
          have hF0 := (FinS.start HRO.out).below hE.bel
          have HF0 := Lib.hid hF0
          have HRL := Lib.hid hED.readLog
          have HED := Lib.hid hED
          have l0 := hF0.cellL HLK.out
          have lf := frozen_of_row _ _ kk _ _ hF0.l
          have hk2 : (kk : Int) < 2 := by have := HLK.out; omega
          clear hE hED hF0
          go_wp2_with fail
          (with_reducible refine HRL.out.mono ?_)
          rintro e w12 ⟨rfl, rfl⟩
          go_wp2_with fail
          obtain ⟨X, hX⟩ : ∃ X, w12.setCell ⟨W0.heap.size + 1, kk, none⟩ (.string (logT steps m)) = X := ⟨_, rfl⟩
          rw [hX]
          have hDX : EndD X p Wk.heap.size F v q steps m := by rw [← hX]; exact HED.out.set _ _ _ (by have := HRO.out.2.2.2; omega)
          have hFX : FinS W0 kk ⟨#[]⟩ FT LT LT X := by rw [← hX, HLT.out]; exact HF0.out.setL HLK.out LT
          have HNm := Lib.hid hDX.names
          have HDX := Lib.hid hDX; have HFX := Lib.hid hFX
          clear hX hDX hFX l0 lf HRL HED HF0 HL10
          (with_reducible refine HNm.out.mono ?_)
          rintro e w13 ⟨na, nc, ns, rfl, hN, hS, hb13⟩
          have HN := Lib.hid hN; have HS := Lib.hid hS; have HF13 := Lib.hid (HFX.out.below hb13); have HD13 := Lib.hid (HDX.out.below hb13)
          have hns3 := hN.few
          have HXZ := Lib.hid (show W0.heap.size + 2 ≤ X.heap.size from HFX.out.z)
          clear hN hS hb13 HNm HFX
          go_wp2_with fail
          go_loopw [165] (fun iv wr => ∃ j : Nat, j ≤ ns.length ∧ iv = .int .i64 j ∧ FinS W0 kk (curF ns j FT) FT LT LT wr ∧ EndD wr p Wk.heap.size F v q steps m ∧ OwnS wr X.heap.size (.slice na ns.length nc) ns) (fun iv _ => ns.length - (intOf iv).toNat)
          case atStart => exact ⟨0, Nat.zero_le _, rfl, by rw [curF_start]; exact HF13.out, HD13.out, HS.out⟩
          case round =>
            obtain ⟨j, hj, rfl, hF, hD, hS⟩ := hrel
            obtain ⟨wq, hwq⟩ : ∃ wq : World, wq = wr := ⟨_, rfl⟩
            subst hwq
            by_cases hlt : j < ns.length
            · obtain ⟨_, b, off, rfl, hcs⟩ := (hS.strs HN.out.ok) j hlt
              obtain ⟨s1, hs1⟩ : ∃ s1, ns[j] = s1 := ⟨_, rfl⟩
              rw [hs1] at hcs
              have HF := Lib.hid hF; have HD := Lib.hid hD; have HS1 := Lib.hid hS; have HS2 := Lib.hid hs1
              clear hF hD hS hs1
              have f0 := HF.out.cell HLK.out
              have ff := frozen_of_row _ _ kk _ _ HF.out.f
              rcases other_tests s1 with ⟨ho, t1, t2⟩ | ⟨ho, ⟨t1, t2⟩ | ⟨t1, t2⟩⟩
              · have HRF := Lib.hid (HD.out.readFile (HN.out.mem s1 (by rw [← HS2.out]; exact List.getElem_mem hlt)) ho)
                rw [HFT.out] at HRF
                have HOO := Lib.hid (curF_other hlt (by rw [HS2.out]; exact ho) FT)
                clear ho
                go_wp2_with fail
                (with_reducible refine HRF.out.mono ?_)
                rintro e w14 ⟨rfl, rfl⟩
                go_wp2
                go_roundw
                case rel => exact ⟨j + 1, by omega, by go_num, by rw [HOO.out]; exact HF.out.setF HLK.out FT, HD.out.set _ _ _ (by have := HRO.out.2.2.2; omega), HS1.out.set _ _ _ (by have := HXZ.out; omega)⟩
                case measure => simp [intOf]; omega
              · have HOO := Lib.hid (curF_same hlt (by rw [HS2.out]; exact ho) FT)
                clear ho
                go_wp2
                go_roundw
                case rel => exact ⟨j + 1, by omega, by go_num, by rw [HOO.out]; exact HF.out, HD.out, HS1.out⟩
                case measure => simp [intOf]; omega
              · have HOO := Lib.hid (curF_same hlt (by rw [HS2.out]; exact ho) FT)
                clear ho
                go_wp2
                go_roundw
                case rel => exact ⟨j + 1, by omega, by go_num, by rw [HOO.out]; exact HF.out, HD.out, HS1.out⟩
                case measure => simp [intOf]; omega
            · obtain rfl : j = ns.length := by omega
              have hce : curF ns ns.length FT = FT := by rw [← HFT.out]; exact curF_end HN.out
              rw [hce] at hF
              obtain ⟨W2, hW2⟩ : ∃ W2, wq.alloc (.cells #[.string ⟨#[108, 111, 103]⟩] 9) = W2 := ⟨_, rfl⟩
              have hb2 : Below wq.heap.size wq W2 := by rw [← hW2]; exact bl_alloc (Below.refl _ _) _
              have hs2 : W2.heap[wq.heap.size]? = some (.cells #[.string ⟨#[108, 111, 103]⟩] 9 (0, 0)) := by rw [← hW2]; exact heap_alloc_new _ _
              have HW2 := Lib.hid hW2; have HF2 := Lib.hid (hF.below hb2); have hD2 := hD.below hb2
              have HS2 := Lib.hid hs2
              have f0 := (hF.below hb2).cell HLK.out
              by_cases hm0 : m = 0
              · have d1 : decide ((m : Int) > 0) = false := by simp; omega
                have d2 : decide (0 < m) = false := by simp; omega
                have HNm := Lib.hid (hD2.names0 hm0)
                clear hF hD hS hce hW2 hb2 hs2 hD2 hm0
                go_upto_region 42 with (fail)
                rw [HW2.out]
                go_wp2_with fail
                (with_reducible refine HNm.out.mono ?_)
                rintro e w15 ⟨a2, c2, rfl, hst2, hb15⟩
                have HSa := Lib.hid (rSameOne logN a2 (some ⟨wq.heap.size, 0, none⟩) c2 1 w15 hst2 (fun i hi => by
                  have hi0 : i = 0 := by simp at hi; omega
                  subst hi0
                  refine ⟨by show (3 : Nat) ≤ maxLen; unfold maxLen; omega, wq.heap.size, 0, rfl, ?_⟩
                  rw [cell_of_row _ _ _ _ _ _ ((hb15.block _ (Array.getElem?_eq_some_iff.1 HS2.out).1).trans HS2.out)]
                  rfl))
                have HF15 := Lib.hid (HF2.out.below hb15)
                clear hst2 hb15 f0
                go_wp2_with fail
                (with_reducible refine HSa.out.mono ?_)
                rintro e w16 ⟨rfl, hb16⟩
                have HF16 := Lib.hid (HF15.out.below hb16).done
                clear hb16
                go_wp2
                go_roundw
                case rel => exact ⟨kk + 1, by have := HLK.out; omega, by go_num, HF16.out⟩
                case measure => have := HLK.out; simp [intOf]; omega
              · have d1 : decide ((m : Int) > 0) = true := decide_eq_true (by omega)
                have d2 : decide (0 < m) = true := decide_eq_true (by omega)
                have HNm := Lib.hid (hD2.names3 (by omega))
                have hfull : FT.size ≠ 0 := by rw [← HFT.out]; exact fileT_full steps (by omega)
                have t1 := str_nil hfull
                have t2 : (FT.toList == []) = false := by simp only [beq_eq_false_iff_ne, ne_eq, ByteArray.toList_eq]; intro e; exact hfull (by show FT.data.size = 0; rw [← Array.length_toList, e]; rfl)
                clear hF hD hS hce hW2 hb2 hs2 hD2 hm0 hfull
                go_upto_region 42 with (fail)
                rw [HW2.out]
                go_wp2_with fail
                (with_reducible refine HNm.out.mono ?_)
                rintro e w15 ⟨a2, c2, rfl, hb15⟩
                have f1 := (HF2.out.below hb15).cell HLK.out
                have HF16 := Lib.hid (HF2.out.below hb15).done
                clear hb15 f0
                go_wp2
                go_roundw
                case rel => exact ⟨kk + 1, by have := HLK.out; omega, by go_num, HF16.out⟩
                case measure => have := HLK.out; simp [intOf]; omega
    · obtain rfl : kk = 2 := by omega
      obtain ⟨r1, r2, r3, _⟩ := hro
      have g1 : Wk.cell? ⟨W0.heap.size, 0, none⟩ = some (.string FT) := by rw [cell_of_row _ _ _ _ _ _ r1]; rfl
      have g2 : Wk.cell? ⟨W0.heap.size, 1, none⟩ = some (.string FT) := by rw [cell_of_row _ _ _ _ _ _ r1]; rfl
      have g3 : Wk.cell? ⟨W0.heap.size + 1, 0, none⟩ = some (.string LT) := by rw [cell_of_row _ _ _ _ _ _ r2]; rfl
      have g4 : Wk.cell? ⟨W0.heap.size + 1, 1, none⟩ = some (.string LT) := by rw [cell_of_row _ _ _ _ _ _ r2]; rfl
      have e1 : (FT.toList == FT.toList) = true := by simp
      have e2 : (LT.toList == LT.toList) = true := by simp
      have HB3 := Lib.hid r3
      clear r1 r2 r3 HO0
      go_upto_region 48 with (fail)
      go_quiet (fail)
      go_wp2
      go_ret
      exact ⟨rfl, bl_drewN HB3.out _⟩
end Go.Proofs.YtbhfbdcmamodcaaGreatDoor
