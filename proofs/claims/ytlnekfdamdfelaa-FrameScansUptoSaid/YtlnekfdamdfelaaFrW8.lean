/- Walk of the law FrameTorn. -/
import Derived.Test.YtlnekfdamdfelaaFrW7
set_option linter.unusedVariables false
set_option linter.unusedSimpArgs false
namespace Go.Proofs.Ytlnekfdamdfelaa
open Go.RowKit PackMath SumMath FrMath

theorem modCast (c s : Nat) : (c : Int) % ((s : Int) + 1) = ((c % (s + 1) : Nat) : Int) := by
  rw [Int.natCast_emod, Int.natCast_add]; rfl
theorem sizes_succ (W : List (Int × ByteArray)) (k : Nat) (x : Int) (b : ByteArray) (hk : k < W.length) (hx : W[k] = (x, b)) : sizesF (W.take (k + 1)) = sizesF (W.take k) + (b.size + 9) := by
  unfold sizesF
  rw [List.take_succ_eq_append_getElem hk, hx]
  unfold flatFr
  rw [List.flatMap_append, List.length_append]
  simp [encF_len]
theorem sizes_mono (W : List (Int × ByteArray)) {k j : Nat} (h : k ≤ j) : sizesF (W.take k) ≤ sizesF (W.take j) := by
  unfold sizesF
  obtain ⟨d, rfl⟩ := Nat.exists_eq_add_of_le h
  rw [List.take_add]
  unfold flatFr
  rw [List.flatMap_append, List.length_append]
  omega
section
variable (w : World)
theorem scan_ex (s : ByteArray) (hs : s.size ≤ 1099511627776) (l : List (Int × ByteArray)) (j G E : Nat) (hR : scanR s = (l, (G, E))) (hj : l.length = j) :
    Calls Try.prog 17 #[.string s] w fun r w' => ∃ ga gc, r = .returned (.tuple #[.slice ga j gc, .int .i64 G, .int .i64 E]) ∧ FrsAt w' ga l ∧ Below w.heap.size w w' := by
  refine (fScan s hs w).mono ?_
  rintro r w' ⟨v, rfl, hc⟩
  rw [hR] at hc ⊢
  obtain ⟨ga, gc, rfl, hf, _, _⟩ := frs_row hc.row
  subst hj
  exact ⟨ga, gc, rfl, hf, hc.bel⟩
theorem laid_ex (l : List (Int × ByteArray)) (a : Option Addr) (c : Nat) (hl : l.length ≤ maxLen) (h : FrsAt w a l) :
    Calls Try.prog 16 #[.slice a l.length c] w fun r w' => ∃ (S : ByteArray) (wa : Option Addr) (wc : Nat), r = .returned (.tuple #[.string S, .slice wa (laidR l).2.length wc]) ∧ S.data.toList = (laidR l).1 ∧ FrsAt w' wa (laidR l).2 ∧ (laidR l).2.length ≤ wc ∧ (wa = none → (laidR l).2.length = 0 ∧ wc = 0) ∧ (∀ x, wa = some x → x = ⟨x.block, 0, none⟩) ∧ Below w.heap.size w w' := by
  refine (fLaid w l a c hl h).mono ?_
  rintro r w' ⟨S, v, rfl, hS, hc⟩
  rcases hc.row.2 with ⟨rfl, h0⟩ | ⟨g, cap, cur, rfl, hgb, hh, hnc, hcm, hcs, htake⟩
  · exact ⟨S, none, 0, by rw [h0], hS, (fun i hi => by omega), by omega, (fun _ => ⟨h0, rfl⟩), (fun x hx => by cases hx), hc.bel⟩
  · obtain ⟨a', c', hv, hf, h1, h2⟩ := frs_row hc.row
    simp only [Value.slice.injEq] at hv
    obtain ⟨rfl, _, rfl⟩ := hv
    exact ⟨S, _, _, rfl, hS, hf, hnc, (fun e => by cases e), (fun x hx => by cases hx; rfl), hc.bel⟩
theorem rSameF_at (l : List (Int × ByteArray)) (a b : Option Addr) (j c d : Nat) (hj : l.length = j) (hl : j ≤ 1099511627776) (h : FrsAt w a l) (k : FrsAt w b l) :
    Calls Try.prog 18 #[.slice a j c, .slice b j d] w fun e w' => e = .returned (.bool true) ∧ ∃ n, w' = w.drewN n := by
  subst hj
  exact rSameF w l a b c d hl h k
end
/-- Behind the laying: the log's text, its frames, where it is cut. -/
structure Torn (S : ByteArray) (W : List (Int × ByteArray)) (n j G E : Nat) : Prop where
  scan : scanR (S.extract 0 n) = (W.take j, (G, E))
  sum : sizesF (W.take j) = G
  jl : j ≤ W.length
  gl : G ≤ n
  wl : W.length ≤ 233018
  nl : n ≤ S.size
  sl : S.size ≤ 2097161

set_option maxHeartbeats 1000000 in
set_option maxRecDepth 100000 in
theorem torn_any (l : List (Int × ByteArray)) (a : Option Addr) (c cut : Nat) (hl : l.length ≤ maxLen) (hcut : cut < 65536) (w : World) (h : FrsAt w a l) :
    Calls Try.prog 6 #[.slice a l.length c, .int .u16 cut] w fun e w' => e = .returned (.bool true) ∧ Below w.heap.size w w' := by
  have HA := Lib.hid h
  have HLI := Lib.hid (laid_inv l)
  have HLC := Lib.hid (laid_count l)
  clear h
  generalize hW : laidR l = R at *
  go_enter Try.func6, Try.ntmps6
  have HW := Lib.hid hW
  clear hW
  go_wp2_with (first
    | (go_at_call 9; refine (fFrames _).mono ?_; rintro e w1 ⟨rfl, hb⟩; have HB1 := Lib.hid hb; clear hb)
    | (go_at_call 16; refine (laid_ex _ l a c hl (HA.out.below HB1.out)).mono ?_; rintro r w2 ⟨S, wa, wc, rfl, hS, hf, hwc, hnil, hsm, hb⟩; rw [HW.out] at hS hf hwc hnil ⊢; have HS := Lib.hid hS; have HF := Lib.hid hf; have HNIL := Lib.hid hnil; have HSM := Lib.hid hsm; have HB2 := Lib.hid (bl_trans HB1.out hb); have hmod := modCast cut S.size; have hSl : S.size ≤ 2097161 := (by rw [← size_list, hS]; exact HLI.out.2.2); have hw16 : IntKind.i64.wrap ((S.size : Int) + 1) = (S.size : Int) + 1 := IntWalk.i64_in _ (by omega); have hnl : cut % (S.size + 1) ≤ S.size := Nat.lt_succ_iff.1 (Nat.mod_lt _ (Nat.succ_pos _)); generalize cut % (S.size + 1) = n at hmod hnl; clear hS hf hnil hsm hb))
  rw [hmod]
  clear hmod
  obtain ⟨j, E, hj, hscan, hG, hE, hnext⟩ := scan_torn S R.2 n HLI.out.2.1 (HS.out.trans HLI.out.1) hnl
  have hwl : R.2.length ≤ 233018 := HLC.out
  have hsc := fun W => scan_ex W (S.extract 0 n) (by rw [ByteArray.size_extract]; omega) (R.2.take j) j _ E hscan (by rw [List.length_take]; omega)
  have HSZ := Lib.hid (fun k x b => sizes_succ R.2 k x b)
  obtain ⟨G, hGe⟩ : ∃ G, sizesF (R.2.take j) = G := ⟨_, rfl⟩
  rw [hGe] at hG hE hnext hsc
  have HGE := Lib.hid hGe
  have HSC := Lib.hid hsc
  clear hsc hscan hGe
  obtain ⟨W, hWe⟩ : ∃ W, R.2 = W := ⟨_, rfl⟩
  rw [hWe] at HSZ HF HGE HSC HNIL hj hwl hnext hwc ⊢
  have hfE : (E = 0 ∧ G = n) ∨ (E = 2 ∧ G < n) := by
    rcases hE with ⟨h1, h2⟩ | ⟨h1, h2⟩
    · exact .inl ⟨h1, h2⟩
    · exact .inr ⟨h1, h2⟩
  have HE := Lib.hid hfE
  have HGD := Lib.hid HLI.out.2.1
  rw [hWe] at HGD
  have HNX := Lib.hid hnext
  clear hE hfE hnext hWe
  have hd1 : decide (W.length < j) = false := decide_eq_false (by omega)
  have hd2 : decide (n < G) = false := decide_eq_false (by omega)
  have hjT : (W.take j).length = j := by rw [List.length_take]; omega
  have HJT := Lib.hid hjT
  clear hjT
  go_wp2_with (first
    | (go_at_call 17; (with_reducible refine (HSC.out _).mono ?_); rintro r w3 ⟨ga, gc, rfl, hf, hb⟩; have HFG := Lib.hid hf; have HFW := Lib.hid (HF.out.below hb); have HB3 := Lib.hid (bl_trans HB2.out hb); clear hf hb)
    | (go_at_call 18; refine (rSameF_at w3 (W.take j) ga wa j gc wc HJT.out (by omega) HFG.out (HFW.out.take j)).mono ?_; rintro r w4 ⟨rfl, nn, rfl⟩))
  go_loopw [11, 56] (fun sv iv wr => ∃ k : Nat, k ≤ j ∧ iv = .int .i64 k ∧ sv = .int .i64 (sizesF (W.take k) : Nat) ∧ Below w3.heap.size w3 wr) (fun _ iv _ => j - (intOf iv).toNat)
  case atStart => exact ⟨0, Nat.zero_le _, rfl, rfl, below_drewN (Below.refl _ _) _⟩
  case round =>
    obtain ⟨k, hk, rfl, rfl, hbb⟩ := hrel
    have HBk := Lib.hid hbb
    clear hbb
    by_cases hlt : k < j
    · have hkW : k < W.length := by omega
      obtain ⟨b1, o1, rfl, p1, p2⟩ := HFG.out.below HBk.out k (by have := HJT.out; omega)
      rw [List.getElem_take] at p1 p2
      obtain ⟨x, b, hx⟩ : ∃ x b, W[k] = (x, b) := ⟨_, _, rfl⟩
      rw [hx] at p1 p2
      have hgd := HGD.out (x, b) (by rw [← hx]; exact List.getElem_mem hkW)
      have hbs : b.size ≤ 1048576 := hgd.2.2
      have HN := Lib.hid (HSZ.out k x b hkW hx)
      have hmo := sizes_mono W (show k + 1 ≤ j by omega)
      rw [HGE.out, HN.out] at hmo
      generalize sizesF (W.take k) = sk at hmo HN
      have HFS := Lib.hid (fun W' => fSize W' x b (by omega))
      clear hx hgd
      go_wp2_with (go_at_call 15; (with_reducible refine (HFS.out _).mono ?_); rintro r wn ⟨rfl, hb⟩; have HBn := Lib.hid (bl_trans (bl_alloc HBk.out (.cells #[.int .i64 x, .string b] 25)) hb); clear hb)
      go_roundw
      case rel => exact ⟨k + 1, by omega, by go_num, by rw [HN.out]; first | rfl | go_num, HBn.out⟩
      case measure => simp [intOf]; omega
    · obtain rfl : k = j := by omega
      rw [HGE.out]
      by_cases hjW : k = W.length
      · have hdj : ((k : Int) == (W.length : Int)) = true := by simp; omega
        clear hjW
        rcases HE.out with ⟨rfl, hGn⟩ | ⟨rfl, hGn⟩
        · have hgn : ((G : Int) == (n : Int)) = true := by simp; omega
          clear hGn
          go_wp2
          go_ret
          exact ⟨rfl, bl_trans HB3.out HBk.out⟩
        · have hgn : ((G : Int) == (n : Int)) = false := by simp; omega
          clear hGn
          go_wp2
          go_ret
          exact ⟨rfl, bl_trans HB3.out HBk.out⟩
      · have hdj : ((k : Int) == (W.length : Int)) = false := by simp; omega
        have hkW : k < W.length := by omega
        obtain ⟨b1, o1, rfl, p1, p2⟩ := HFW.out.below HBk.out k hkW
        obtain ⟨x, b, hx⟩ : ∃ x b, W[k] = (x, b) := ⟨_, _, rfl⟩
        rw [hx] at p1 p2
        have hgd := HGD.out (x, b) (by rw [← hx]; exact List.getElem_mem hkW)
        have hbs : b.size ≤ 1048576 := hgd.2.2
        have hnx : n < G + (b.size + 9) := HNX.out (x, b) (by rw [List.getElem?_eq_getElem hkW, hx])
        have hnx2 : decide ((n : Int) < (G : Int) + ((b.size : Int) + 9)) = true := by simp only [decide_eq_true_eq]; omega
        have hwz : IntKind.i64.wrap ((G : Int) + ((b.size : Int) + 9)) = (G : Int) + ((b.size : Int) + 9) := IntWalk.i64_in _ (by omega)
        have HFS := Lib.hid (fun W' => fSize W' x b (by omega))
        clear hx hgd hjW
        rcases HE.out with ⟨rfl, hGn⟩ | ⟨rfl, hGn⟩
        · have hgn : ((G : Int) == (n : Int)) = true := by simp; omega
          clear hGn
          go_wp2_with (go_at_call 15; (with_reducible refine (HFS.out _).mono ?_); rintro r wn ⟨rfl, hb⟩; have HBn := Lib.hid (bl_trans HBk.out hb); clear hb)
          go_ret
          exact ⟨rfl, bl_trans HB3.out HBn.out⟩
        · have hgn : ((G : Int) == (n : Int)) = false := by simp; omega
          clear hGn
          go_wp2_with (go_at_call 15; (with_reducible refine (HFS.out _).mono ?_); rintro r wn ⟨rfl, hb⟩; have HBn := Lib.hid (bl_trans HBk.out hb); clear hb)
          go_ret
          exact ⟨rfl, bl_trans HB3.out HBn.out⟩
end Go.Proofs.Ytlnekfdamdfelaa
