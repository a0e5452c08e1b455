/- Walks of layer 8: what bytes are read as, by the program. -/
import Derived.Test.YtdjpmgkcgpkkmaaTrDc
import Derived.Test.YtdjpmgkcgpkkmaaTrMk
set_option linter.unusedVariables false
set_option linter.unusedSimpArgs false
namespace Go.Proofs.Ytdjpmgkcgpkkmaa
open Go.RowKit PackMath TrMath

def DecTSaid (s : ByteArray) (w : World) (r : Ending) (w' : World) : Prop :=
  ∃ v, r = .returned (.tuple #[v, .int .i64 (decE s : Nat)]) ∧ Own w' w.heap.size v (decT s) ∧ Below w.heap.size w w'
theorem decT_bad {s : ByteArray} {w w' : World} {E : Nat} (h : decE s = E) (hE : E ≠ 0) (hb : Below w.heap.size w w') : DecTSaid s w (.returned (.tuple #[.slice none 0 0, .int .i64 E])) w' := by
  subst h
  exact ⟨_, rfl, by rw [decT_err hE]; exact Own.nil _ _, hb⟩
theorem decT_good {s : ByteArray} {w w' : World} {v : Value} {l : Ents} (h : decE s = 0) (hl : decT s = l) (ho : Own w' w.heap.size v l) (hb : Below w.heap.size w w') : DecTSaid s w (.returned (.tuple #[v, .int .i64 0])) w' := by
  refine ⟨v, by rw [h]; rfl, by rw [hl]; exact ho, hb⟩
theorem Own.kept {w w' : World} {B p : Nat} {v : Value} {l : Ents} (h : Own w B v l) (k : Kept w w' p) (hp : p < B) : Own w' B v l :=
  h.keep fun i hi => k.block i (h.lt i hi).2 (by have := (h.lt i hi).1; omega)
theorem Own.set2 {w : World} {B b : Nat} {v u u' : Value} {l : Ents} (h : Own w B v l) (hb : ∀ i, v.ownBlock = some i → i ≠ b) : Own ((w.setCell ⟨b, 0, none⟩ u).setCell ⟨b, 1, none⟩ u') B v l :=
  h.keep fun i hi => by rw [heap_setCell_other _ _ _ _ (hb i hi), heap_setCell_other _ _ _ _ (hb i hi)]
theorem ebox_new (w : World) : EBox (w.alloc (.cells #[.string ⟨#[]⟩, .int .u32 0] 39)) w.heap.size := heap_alloc_new _ _
theorem ebox_set {w : World} {b : Nat} (P : ByteArray) (X : Int) (h : EBox w b) : ((w.setCell ⟨b, 0, none⟩ (.string P)).setCell ⟨b, 1, none⟩ (.int .u32 X)).cell? ⟨b, 0, none⟩ = some (.string P) ∧ ((w.setCell ⟨b, 0, none⟩ (.string P)).setCell ⟨b, 1, none⟩ (.int .u32 X)).cell? ⟨b, 1, none⟩ = some (.int .u32 X) := by
  have h1 := heap_setCell_same w b 0 _ _ (.string P) h
  have h2 := heap_setCell_same _ b 1 _ _ (.int .u32 X) h1
  exact ⟨by rw [cell_of_row _ _ _ _ _ _ h2]; rfl, by rw [cell_of_row _ _ _ _ _ _ h2]; rfl⟩
theorem IsRd.grown {T : TypeId} {w w' : World} {p : Nat} {s : ByteArray} {a e : Nat} {r : Option Nat} (h : IsRd T w p s a e) (k : w.grownBy w' r) (hr : ∀ i, r = some i → i ≠ p) : IsRd T w' p s a e :=
  ⟨by rw [k.block p (Array.getElem?_eq_some_iff.1 h.cell).1 (fun e => hr p e.symm rfl)]; exact h.cell, h.le, h.small⟩
/-- Reading under way: what is still to come. -/
structure Run (s : ByteArray) (c j : Nat) (fb : Bool) (L : ByteArray) (a e : Nat) (pre : Ents) (G : Nat × Ents) : Prop where
  len : pre.length = j
  err : G.1 = (decGo s (c - j) fb L a e).1
  all : G.2 = pre ++ (decGo s (c - j) fb L a e).2
  short : L.size ≤ 255
theorem Run.fail {s L : ByteArray} {c j a e E : Nat} {fb : Bool} {pre : Ents} {G : Nat × Ents} (h : Run s c j fb L a e pre G) (hj : j < c) (hE : (entR s fb L a e).1 = E) (h0 : E ≠ 0) : G.1 = E := by
  rw [h.err, show c - j = (c - (j + 1)) + 1 from by omega, decGo_err hE h0]
theorem ent_short {s L P : ByteArray} {a e X b g : Nat} {fb : Bool} (h : entR s fb L a e = (0, ((P, X), (b, g)))) : P.size ≤ 255 ∧ X < 4294967296 ∧ X ≠ 0 := by
  unfold entR at h
  simp only at h
  split at h
  · exact absurd (congrArg (·.1) h) (by simp)
  · split at h
    · rename_i h1; exact absurd (congrArg (·.1) h) h1
    · split at h
      · exact absurd (congrArg (·.1) h) (by simp)
      · rename_i hb
        split at h
        · rename_i h1; exact absurd (congrArg (·.1) h) h1
        · split at h
          · exact absurd (congrArg (·.1) h) (by simp)
          · rename_i hx
            have e1 := congrArg (fun R => R.2.1.1) h
            have e2 := congrArg (fun R => R.2.1.2) h
            simp only at e1 e2
            rw [e1] at hb
            refine ⟨Nat.le_of_not_lt fun k => hb (.inl k), ?_, ?_⟩
            · rw [← e2]; exact numR_lt _ _ _ _
            · rw [← e2]; exact hx
theorem Run.step {s L P : ByteArray} {c j a e X b g : Nat} {fb : Bool} {pre : Ents} {G : Nat × Ents} (h : Run s c j fb L a e pre G) (hj : j < c) (hE : entR s fb L a e = (0, ((P, X), (b, g)))) : Run s c (j + 1) false P b g (pre ++ [(P, (X : Int))]) G := by
  have hs := decGo_ok (r := c - (j + 1)) hE
  have e1 := h.err
  have e2 := h.all
  rw [show c - j = (c - (j + 1)) + 1 from by omega, hs] at e1 e2
  exact ⟨by rw [List.length_append, h.len]; rfl, e1, by rw [e2]; simp, (ent_short hE).1⟩
theorem Run.stop {s L : ByteArray} {c a e : Nat} {fb : Bool} {pre : Ents} {G : Nat × Ents} (h : Run s c c fb L a e pre G) : G = (endR s a e, pre) := by
  have e1 := h.err
  have e2 := h.all
  rw [Nat.sub_self] at e1 e2
  exact Prod.ext e1 (by rw [e2]; simp [decGo])

set_option maxHeartbeats 4000000 in
set_option maxRecDepth 100000 in
theorem tDecodeA (s : ByteArray) (hs : s.size < 281474976710656) (w : World) (c f a0 e0 : Nat) (h0 : numR s 0 0 2 = ((c, f), (a0, e0))) (hf : f = 0) (hc : ¬ 1024 < c) :
    Calls Try.prog 29 #[.string s] w (DecTSaid s w) := by
  obtain ⟨i0, hi, hz0, hz1, hz2⟩ := info_parts infoEntry
  obtain ⟨hd3, hd4⟩ := dec_3 h0 hf hc
  have H0 := Lib.hid h0
  have hfz : ((f : Int) == 0) = true := by simp; omega
  have hcz : decide ((1024 : Int) < (c : Int)) = false := by simp; omega
  have hcz2 : decide (1024 < c) = false := by simp; omega
  obtain ⟨G, hG⟩ : ∃ G, decGo s c true ⟨#[]⟩ a0 e0 = G := ⟨_, rfl⟩
  rw [hG] at hd3 hd4
  have HD3 := Lib.hid hd3; have HD4 := Lib.hid hd4
  have HRun := Lib.hid (show Run s c 0 true ⟨#[]⟩ a0 e0 [] G from ⟨rfl, by rw [← hG]; rfl, by rw [← hG]; rfl, by decide⟩)
  subst hf
  clear h0 hd3 hd4 hG
  go_enter Try.func29, Try.ntmps29
  go_wp2_with fail
  refine (rd_new w s hs).mono ?_
  rintro r w1 ⟨rfl, hb, hr⟩
  have HB1 := Lib.hid hb; have HR1 := Lib.hid hr
  have hpw := (Array.getElem?_eq_some_iff.1 hr.cell).1
  clear hb hr
  go_wp2_with fail
  refine (rU16_ex w.heap.size s 0 0 w1 c 0 a0 e0 H0.out HR1.out).mono ?_
  rintro r w2 ⟨rfl, hk, hr⟩
  have HB2 := Lib.hid (HB1.out.trans (hk.below (Nat.le_refl _) HB1.out.size)); have HR2 := Lib.hid hr
  have hpw2 := (Array.getElem?_eq_some_iff.1 hr.cell).1
  clear hk hr
  go_wp2
  go_loopw [6, 7, 8, 9] (fun ev tv lv iv wr => ∃ (E j a e : Nat) (fb : Bool) (v : Value) (L : ByteArray) (pre : Ents), j ≤ c ∧ ev = .int .i64 E ∧ tv = v ∧ lv = .string L ∧ iv = .int .i64 j ∧ ((j : Int) == 0) = fb ∧ (E = 0 → Run s c j fb L a e pre G ∧ IsRd TR wr w.heap.size s a e ∧ Own wr (w.heap.size + 1) v pre) ∧ (E ≠ 0 → decE s = E) ∧ w.heap.size < wr.heap.size ∧ Below w.heap.size w wr) (fun _ _ _ iv _ => c - (intOf iv).toNat)
  case atStart => exact ⟨0, 0, a0, e0, true, _, ⟨#[]⟩, [], Nat.zero_le _, rfl, rfl, rfl, rfl, rfl, fun _ => ⟨HRun.out, HR2.out, Own.nil _ _⟩, fun h => absurd rfl h, hpw2, HB2.out⟩
  case round =>
    obtain ⟨E, j, a, e, fb, v, L, pre, hj, rfl, rfl, rfl, rfl, hfb, hrun, herr, hpwr, hbel⟩ := hrel
    have HB := Lib.hid hbel
    clear hbel
    by_cases hE : E = 0
    · obtain ⟨hrn, hrd, hown⟩ := hrun hE
      subst hE
      have HRn := Lib.hid hrn; have HRd := Lib.hid hrd; have HO := Lib.hid hown
      have hls := hrn.short
      have hpl := hrn.len
      clear herr hrn hrd hown hrun
      by_cases hlt : j < c
      · have hjz : decide ((j : Int) < (c : Int)) = true := by simp; omega
        have hjz2 : decide (j < c) = true := by simp; omega
        obtain ⟨ER, hER⟩ : ∃ R, entR s fb L a e = R := ⟨_, rfl⟩
        obtain ⟨E1, ⟨⟨P1, X1⟩, ⟨b1, g1⟩⟩⟩ := ER
        have HER := Lib.hid hER
        have HEN := Lib.hid (tEntry w.heap.size s L fb a e (wr.alloc (.cells #[.string ⟨#[]⟩, .int .u32 0] 39)) hls (HRd.out.below (bl_alloc (Below.refl _ wr) _)))
        have HPL := Lib.hid hpl
        have hpl2 : pre.length ≤ 1024 := by omega
        clear hER hpl
        go_wp2_with fail
        refine (HEN.out).mono ?_
        rintro r w3 ⟨P, X, rfl, hk, hres⟩
        rw [HER.out] at hres ⊢
        have HK3 := Lib.hid hk
        have HX3 := Lib.hid ((ebox_new wr).kept hk (by omega))
        have HO3 := Lib.hid (((HO.out.alloc (.cells #[.string ⟨#[]⟩, .int .u32 0] 39)).kept hk (Nat.lt_succ_self _)).set2 (b := wr.heap.size) (u := .string P) (u' := .int .u32 X) (fun i hi e => by have := (HO.out.lt i hi).2; omega))
        have hB3 := (bl_alloc HB.out (.cells #[.string ⟨#[]⟩, .int .u32 0] 39)).trans (hk.below (Nat.le_refl _) (by simp; omega))
        have HB3 := Lib.hid ((hB3.setCell (p := ⟨wr.heap.size, 0, none⟩) (by show _ ≤ wr.heap.size; omega) (.string P)).setCell (p := ⟨wr.heap.size, 1, none⟩) (by show _ ≤ wr.heap.size; omega) (.int .u32 X))
        obtain ⟨x0, x1, y0, y1⟩ := EBox.cells HX3.out
        have HSE := Lib.hid (ebox_set P X HX3.out)
        have hw3 : wr.heap.size < w3.heap.size := (Array.getElem?_eq_some_iff.1 HX3.out).1
        have hsz3 : ((w3.setCell ⟨wr.heap.size, 0, none⟩ (.string P)).setCell ⟨wr.heap.size, 1, none⟩ (.int .u32 X)).heap.size = w3.heap.size := by simp [World.setCell]
        have HSZ := Lib.hid hsz3
        clear hk hB3 hsz3
        by_cases hE1 : E1 = 0
        · subst hE1
          obtain ⟨hpx, hrd3⟩ := hres _ rfl
          cases hpx
          have HRd3 := Lib.hid (hrd3.box2 (u := .string P1) (v := .int .u32 X1) (show w.heap.size ≠ wr.heap.size by omega))
          have HSt := Lib.hid (HRn.out.step hlt HER.out)
          clear hrd3 hres
          go_upto_region 12 with (fail)
          obtain ⟨z0, z1⟩ := HSE.out
          clear x0 x1 y0 y1
          have hb4 : wr.heap.size < ((w3.setCell ⟨wr.heap.size, 0, none⟩ (.string P1)).setCell ⟨wr.heap.size, 1, none⟩ (.int .u32 X1)).heap.size := by rw [HSZ.out]; exact hw3
          have HNB := Lib.hid (fun i hi => (HO.out.lt i hi).2)
          have HZZ := Lib.hid (And.intro z0 z1)
          generalize (w3.setCell ⟨wr.heap.size, 0, none⟩ (.string P1)).setCell ⟨wr.heap.size, 1, none⟩ (.int .u32 X1) = w4 at *
          go_wp2_with (refine wpList_append_lies _ rfl (.tmp 44) (.tmp 46) 22 rfl (w.heap.size + 1) 39 i0 (.agg #[.string ⟨#[]⟩, .int .u32 0]) 2 24 Try.underlying22 hi hz0 hz1 hz2 rfl (by decide) _ pre.length (enCells pre) rfl (HO3.out.alloc _) ⟨w4.heap.size, 0, none⟩ 1 1 [.string P1, .int .u32 X1] rfl rfl (cells_pair _ _ _ _) (one_pair _ _) (by decide) (by unfold maxLen; omega) (by omega) (by simp; omega) (w4.heap.size + 1) (by simp) ?_; intro gg cp w5 hown hg hat hlt5; have HO5 := Lib.hid (Own.push hown); have HB5 := Lib.hid (gb_to_below (bl_alloc HB3.out _) hg (bl_alloc HB3.out _).size (fun i hi => Nat.le_of_lt (HO3.out.lt i hi).1)); have hx5 := hg.block wr.heap.size (by simp; omega) (fun e => by have := HNB.out _ e.symm; omega); have HX5 := Lib.hid hx5; have c5 : w5.cell? ⟨wr.heap.size, 0, none⟩ = some (.string P1) := (by rw [World.cell?_of_block (a := ⟨wr.heap.size, 0, none⟩) (by exact hx5)]; exact Lib.cell?_alloc_some _ HZZ.out.1); have HRd5 := Lib.hid ((HRd3.out.below (bl_alloc (Below.refl _ w4) (.cells #[.string P1, .int .u32 X1] 39))).grown hg (fun i hi e => by have := (HO3.out.lt i hi).1; omega)); have hsz5 := hg.size; clear hown hg hat hx5)
          go_roundw
          case rel => exact ⟨0, j + 1, b1, g1, false, _, P1, pre ++ [(P1, (X1 : Int))], by omega, rfl, rfl, rfl, by go_num, by rw [beq_eq_false_iff_ne]; omega, fun _ => ⟨HSt.out, HRd5.out, HO5.out⟩, fun h => absurd rfl h, by simp at hsz5; omega, HB5.out⟩
          case measure => simp [intOf]; omega
        · have HFl := Lib.hid (show decE s = E1 by rw [HD3.out]; exact HRn.out.fail hlt (by rw [HER.out]) hE1)
          have hE1z : ((E1 : Int) == 0) = false := by rw [beq_eq_false_iff_ne]; omega
          clear hres
          go_wp2
          go_roundw
          case rel => exact ⟨E1, j + 1, a, e, false, _, L, pre, by omega, rfl, rfl, rfl, by go_num, by rw [beq_eq_false_iff_ne]; omega, fun h => absurd h hE1, fun _ => HFl.out, by rw [HSZ.out]; omega, HB3.out⟩
          case measure => simp [intOf]; omega
      · obtain rfl : j = c := by omega
        have hjz : decide ((j : Int) < (j : Int)) = false := by simp
        have hjz2 : decide (j < j) = false := by simp
        have HG2 := Lib.hid (HRn.out.stop)
        by_cases hend : endR s a e = 0
        · have HF := Lib.hid (show decE s = 0 by rw [HD3.out, HG2.out]; exact hend)
          have HEE := Lib.hid hend
          have HT := Lib.hid (show decT s = pre by rw [HD4.out HF.out, HG2.out])
          clear hend
          go_wp2_with fail
          refine (rEnd w.heap.size s a e wr HRd.out).mono ?_
          rintro r w6 ⟨rfl, hk, hr⟩
          rw [HEE.out]
          have HO6 := Lib.hid (HO.out.kept hk (Nat.lt_succ_self _))
          have HB6 := Lib.hid (HB.out.trans (hk.below (Nat.le_refl _) (Nat.le_of_lt hpwr)))
          clear hk hr
          go_wp2
          go_ret2
          exact decT_good HF.out HT.out (HO6.out.mono (Nat.le_succ _)) HB6.out
        · have HF := Lib.hid (show decE s = endR s a e by rw [HD3.out, HG2.out])
          have hd0 : (((endR s a e : Nat) : Int) != 0) = true := by simp; omega
          have HNE := Lib.hid hend
          clear hend
          go_wp2_with fail
          refine (rEnd w.heap.size s a e wr HRd.out).mono ?_
          rintro r w6 ⟨rfl, hk, hr⟩
          have HB6 := Lib.hid (HB.out.trans (hk.below (Nat.le_refl _) (Nat.le_of_lt hpwr)))
          clear hk hr
          go_wp2
          go_ret2
          exact decT_bad HF.out HNE.out HB6.out
    · have HF := Lib.hid (herr hE)
      have hEz : ((E : Int) == 0) = false := by rw [beq_eq_false_iff_ne]; omega
      have hEz2 : ((E : Int) != 0) = true := by simp; omega
      have HNE := Lib.hid hE
      clear herr hrun
      go_wp2
      go_ret2
      exact decT_bad HF.out HNE.out HB.out

set_option maxHeartbeats 1000000 in
set_option maxRecDepth 100000 in
theorem tDecodeF (s : ByteArray) (hs : s.size < 281474976710656) (w : World) (c f a0 e0 : Nat) (h0 : numR s 0 0 2 = ((c, f), (a0, e0))) (hf : f ≠ 0) :
    Calls Try.prog 29 #[.string s] w (DecTSaid s w) := by
  have HF := Lib.hid (dec_1 h0 hf)
  have H0 := Lib.hid h0
  have hfz : ((f : Int) == 0) = false := by rw [beq_eq_false_iff_ne]; omega
  have hfz2 : ((f : Int) != 0) = true := by simp; omega
  have HNE := Lib.hid hf
  clear h0 hf
  go_enter Try.func29, Try.ntmps29
  go_wp2_with fail
  refine (rd_new w s hs).mono ?_
  rintro r w1 ⟨rfl, hb, hr⟩
  have HB1 := Lib.hid hb; have HR1 := Lib.hid hr
  clear hb hr
  go_wp2_with fail
  refine (rU16_ex w.heap.size s 0 0 w1 c f a0 e0 H0.out HR1.out).mono ?_
  rintro r w2 ⟨rfl, hk, hr⟩
  have HB2 := Lib.hid (HB1.out.trans (hk.below (Nat.le_refl _) HB1.out.size))
  clear hk hr
  go_wp2
  go_loopw [6, 7, 8, 9] (fun ev tv lv iv wr => ev = .int .i64 f ∧ tv = .slice none 0 0 ∧ lv = .string ⟨#[]⟩ ∧ iv = .int .i64 0 ∧ Below w.heap.size w wr) (fun _ _ _ _ _ => 0)
  case atStart => exact ⟨rfl, rfl, rfl, rfl, HB2.out⟩
  case round =>
    obtain ⟨rfl, rfl, rfl, rfl, hb⟩ := hrel
    have HB := Lib.hid hb
    clear hb
    go_wp2
    go_ret2
    exact decT_bad HF.out HNE.out HB.out
set_option maxHeartbeats 1000000 in
set_option maxRecDepth 100000 in
theorem tDecodeC (s : ByteArray) (hs : s.size < 281474976710656) (w : World) (c f a0 e0 : Nat) (h0 : numR s 0 0 2 = ((c, f), (a0, e0))) (hf : f = 0) (hc : 1024 < c) :
    Calls Try.prog 29 #[.string s] w (DecTSaid s w) := by
  have HF := Lib.hid (dec_2 h0 hf hc)
  have H0 := Lib.hid h0
  have hfz : ((f : Int) == 0) = true := by simp; omega
  have hcz : decide ((1024 : Int) < (c : Int)) = true := by simp; omega
  have hcz2 : decide (1024 < c) = true := by simpa using hc
  clear h0 hf
  go_enter Try.func29, Try.ntmps29
  go_wp2_with fail
  refine (rd_new w s hs).mono ?_
  rintro r w1 ⟨rfl, hb, hr⟩
  have HB1 := Lib.hid hb; have HR1 := Lib.hid hr
  clear hb hr
  go_wp2_with fail
  refine (rU16_ex w.heap.size s 0 0 w1 c f a0 e0 H0.out HR1.out).mono ?_
  rintro r w2 ⟨rfl, hk, hr⟩
  have HB2 := Lib.hid (HB1.out.trans (hk.below (Nat.le_refl _) HB1.out.size))
  clear hk hr
  go_wp2
  go_loopw [6, 7, 8, 9] (fun ev tv lv iv wr => ev = .int .i64 3 ∧ tv = .slice none 0 0 ∧ lv = .string ⟨#[]⟩ ∧ iv = .int .i64 0 ∧ Below w.heap.size w wr) (fun _ _ _ _ _ => 0)
  case atStart => exact ⟨rfl, rfl, rfl, rfl, HB2.out⟩
  case round =>
    obtain ⟨rfl, rfl, rfl, rfl, hb⟩ := hrel
    have HB := Lib.hid hb
    clear hb
    go_wp2
    go_ret2
    exact decT_bad (E := 3) HF.out (by decide) HB.out
theorem tDecode (s : ByteArray) (hs : s.size < 281474976710656) (w : World) : Calls Try.prog 29 #[.string s] w (DecTSaid s w) := by
  obtain ⟨c, f, a0, e0, h0⟩ : ∃ v f b g, numR s 0 0 2 = ((v, f), (b, g)) := ⟨_, _, _, _, rfl⟩
  by_cases hf : f = 0
  · by_cases hc : 1024 < c
    · exact tDecodeC s hs w c f a0 e0 h0 hf hc
    · exact tDecodeA s hs w c f a0 e0 h0 hf hc
  · exact tDecodeF s hs w c f a0 e0 h0 hf
end Go.Proofs.Ytdjpmgkcgpkkmaa
