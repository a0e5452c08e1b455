/- Walk of the law BloomTells. -/
import Derived.Test.YtplegohebfajlaaBlMay2
import Derived.Deep.RegionHeld3
set_option linter.unusedVariables false
set_option linter.unusedSimpArgs false
namespace Go.Proofs.Ytplegohebfajlaa
open Go.RowKit BlMath Go.Maps

set_option maxHeartbeats 1000000 in
set_option maxRecDepth 100000 in
theorem bloomTells_bad (H P M : Int) (S : Nat) (hc : chkR H P M ≠ 0) (a : Option Addr) (n cap : Nat) (p : ByteArray) (w : World) :
    Calls Try.prog 6 #[.agg #[.int .i64 H, .int .i64 P, .int .i64 M, .int .u32 S], .slice a n cap, .string p] w fun e w' => e = .returned (.bool true) ∧ Below w.heap.size w w' := by
  have C1 := Lib.hid (fun W => blCheck H P M S W)
  have C2 := Lib.hid (fun W => xCheck H P M S W)
  rw [chk_one hc] at C1 C2
  clear hc
  have HS0 := Lib.hid (set_new w H P M S 27)
  have HB0 := Lib.hid (bl_alloc (Below.refl _ w) (.cells #[.int .i64 H, .int .i64 P, .int .i64 M, .int .u32 S] 27))
  go_enter Try.func6, Try.ntmps6
  go_wp2_with (first
    | (go_at_call 8; (with_reducible refine (blFilters _).mono ?_); rintro r w1 ⟨rfl, hb⟩; have HS1 := Lib.hid (HS0.out.below hb); obtain ⟨s0, s1, s2, s3⟩ := HS0.out.below hb; have HB1 := Lib.hid (HB0.out.trans (hb.mono HB0.out.size)); clear hb)
    | (go_at_call 11; (with_reducible refine (C1.out _).mono ?_); rintro r w2 ⟨rfl, hb⟩; obtain ⟨s0, s1, s2, s3⟩ := HS1.out.below hb; have HB2 := Lib.hid (HB1.out.trans (hb.mono HB1.out.size)); clear hb)
    | (go_at_call 12; (with_reducible refine (C2.out _).mono ?_); rintro r w3 ⟨rfl, hb⟩; have HB3 := Lib.hid (HB2.out.trans (hb.mono HB2.out.size)); clear hb))
  go_ret
  exact ⟨rfl, HB3.out⟩

theorem rev_take (l : List ByteArray) (j : Nat) (h : j < l.length) : l.reverse.take (j + 1) = l.reverse.take j ++ (l[l.length - 1 - j]?).toList := by
  rw [List.take_add_one, List.getElem?_reverse (by omega)]
theorem SetAt.drew {w : World} {q : Nat} {H P M S : Int} (h : SetAt w q H P M S) : SetAt w.drew q H P M S := h
theorem two_set (w : World) (q : Nat) (u v : Value) : Below q w ((w.setCell ⟨q, 0, none⟩ u).setCell ⟨q, 1, none⟩ v) := ((Below.refl q w).setCell (Nat.le_refl _) _).setCell (Nat.le_refl _) _
theorem SetAt.upto {w w' : World} {q B : Nat} {H P M S : Int} (h : SetAt w q H P M S) (hb : Below B w w') (hq : q < B) : SetAt w' q H P M S :=
  ⟨(hb.cell (p := ⟨q, 0, none⟩) hq).trans h.1, (hb.cell (p := ⟨q, 1, none⟩) hq).trans h.2.1, (hb.cell (p := ⟨q, 2, none⟩) hq).trans h.2.2.1, (hb.cell (p := ⟨q, 3, none⟩) hq).trans h.2.2.2⟩
theorem BoxF.upto {w w' : World} {q B st : Nat} {b : ByteArray} (h : BoxF w q st b) (hb : Below B w w') (hq : q < B) : BoxF w' q st b :=
  ⟨(hb.cell (p := ⟨q, 0, none⟩) hq).trans h.1, (hb.cell (p := ⟨q, 1, none⟩) hq).trans h.2⟩
theorem BoxF.grown {w w' : World} {q st : Nat} {b : ByteArray} {row : Option Nat} (h : BoxF w q st b) (hg : w.grownBy w' row) (hne : some q ≠ row) : BoxF w' q st b :=
  ⟨hg.cell (a := ⟨q, 0, none⟩) h.1 hne, hg.cell (a := ⟨q, 1, none⟩) h.2 hne⟩
theorem box_two {w : World} {q st : Nat} {b : ByteArray} {t : TypeId} {u v : Value} (hr : w.heap[q]? = some (.cells #[u, v] t (0, 0))) : BoxF ((w.setCell ⟨q, 0, none⟩ (.int .i64 st)).setCell ⟨q, 1, none⟩ (.string b)) q st b := by
  have h1 := heap_setCell_same w q 0 _ _ (.int .i64 st) hr
  have h2 := heap_setCell_same _ q 1 _ _ (.string b) h1
  exact ⟨by rw [cell_of_row _ _ _ _ _ _ h2]; rfl, by rw [cell_of_row _ _ _ _ _ _ h2]; rfl⟩
theorem one_own (w : World) (x : Value) (e : TypeId) : (w.alloc (.cells #[x] e)).ownsRow w.heap.size e 1 (.slice (some ⟨w.heap.size, 0, none⟩) 1 1) 1 [x] :=
  ⟨by simp, .inr ⟨w.heap.size, 1, #[x], rfl, Nat.le_refl _, heap_alloc_new w _, Nat.le_refl _, by decide, rfl, by simp⟩⟩
set_option maxHeartbeats 4000000 in
set_option maxRecDepth 100000 in
theorem bloomTells_short (H P M : Int) (S : Nat) (hc : chkR H P M = 0) (hS : S < 4294967296) (a : Option Addr) (cap : Nat) (ss : List ByteArray) (p : ByteArray) (hp : p.size ≤ maxLen) (hl : ss.length ≤ cap) (hcm : cap ≤ maxLen) (hnone : a = none → cap = 0) (w : World) (hs : StrsAt w a ss) (h600 : ss.length ≤ 600) :
    Calls Try.prog 6 #[.agg #[.int .i64 H, .int .i64 P, .int .i64 M, .int .u32 S], .slice a ss.length cap, .string p] w fun e w' => e = .returned (.bool true) ∧ Below w.heap.size w w' := by
  unfold maxLen at hcm
  obtain ⟨i0, hi, hz0, hz1, hz2⟩ := info_parts infoStr
  have C1 := Lib.hid (fun W => blCheck H P M S W)
  rw [hc] at C1
  have HCC := Lib.hid hc
  have hz0m := chk_zero hc
  have hT : StrsAt w a (ss.take ss.length) := strs_take hs _
  have hTl : (ss.take ss.length).length = ss.length := by rw [List.length_take]; omega
  have HNA := Lib.hid (show a = none → ss.length = 0 ∧ cap = 0 from fun h => ⟨by have := hnone h; omega, hnone h⟩)
  have hmn : (ss.length : Int) ≤ 600 := by omega
  have hls : (ss.length : Int) ≤ 9223372036854775807 := by omega
  have hlc : (ss.length : Int) ≤ cap := by omega
  have hmc : ss.length ≤ cap := by omega
  have hm1 : ss.length ≤ 600 := by omega
  clear hs hnone h600 hc
  generalize ss.take ss.length = ts at *
  generalize ss.length = m at *
  have HTL := Lib.hid hTl
  have hz : ∀ s ∈ ts, s.size ≤ maxLen := fun s h => by obtain ⟨i, hi, rfl⟩ := List.getElem_of_mem h; exact (hT i hi).1
  have hzw : ∀ s ∈ p :: ts, s.size ≤ maxLen := fun s h => by
    rcases List.mem_cons.1 h with rfl | h1
    · exact hp
    · exact hz s h1
  have HZW := Lib.hid hzw
  have HT := Lib.hid hT
  have hTl2 : ts.length ≤ 600 := by omega
  obtain ⟨st, b, hR, hst⟩ := makeR_good (S := S) (l := p :: ts) HCC.out
  obtain ⟨st2, b2, hR2, hst2⟩ := makeR_good (S := S) (l := ts) HCC.out
  have HU := Lib.hid (uniq_len (p :: ts))
  have HREV := Lib.hid (show ∀ x, x ∈ p :: ts ↔ x ∈ (p :: ts).reverse ++ (p :: ts).reverse from fun x => by simp only [List.mem_append, List.mem_reverse, or_self])
  have hR3 : makeR H P M S ((p :: ts).reverse ++ (p :: ts).reverse) = (0, (st, b)) := by rw [← makeR_congr HREV.out]; exact hR
  have HSUB := Lib.hid (fun (e : st2 = st) (hs : b2.size = b.size) => make_sub (b := b2) (c := b) (fun q (hq : q ∈ ts) => List.mem_cons_of_mem p hq) hR2 (e ▸ hR) hs)
  have hbz : b.size ≤ 4100 := by have := make_size (H := H) (P := P) (M := M) (S := S) (l := p :: ts); rw [hR] at this; exact this
  have M1 := Lib.hid (fun W A c n (hn : n = (p :: ts).length) (hW : StrsAt W A (p :: ts)) => show Calls Try.prog 16 #[.agg #[.int .i64 H, .int .i64 P, .int .i64 M, .int .u32 S], .slice A n c] W (fun e w' => e = .returned (.tuple #[.agg #[.int .i64 st, .string b], .int .i64 0]) ∧ Below W.heap.size W w') from by
    subst hn
    have h := blMake H P M S hS A c (p :: ts) (by unfold maxLen; rw [List.length_cons]; omega) W hW
    rw [hR] at h
    exact h)
  have M2 := Lib.hid (fun W A c n (hn : n = ((p :: ts).reverse ++ (p :: ts).reverse).length) (hW : StrsAt W A ((p :: ts).reverse ++ (p :: ts).reverse)) => show Calls Try.prog 16 #[.agg #[.int .i64 H, .int .i64 P, .int .i64 M, .int .u32 S], .slice A n c] W (fun e w' => e = .returned (.tuple #[.agg #[.int .i64 st, .string b], .int .i64 0]) ∧ Below W.heap.size W w') from by
    subst hn
    have h := blMake H P M S hS A c ((p :: ts).reverse ++ (p :: ts).reverse) (by unfold maxLen; rw [List.length_append, List.length_reverse, List.length_cons]; omega) W hW
    rw [hR3] at h
    exact h)
  have M3 := Lib.hid (fun W A c n (hn : n = ts.length) (hW : StrsAt W A ts) => show Calls Try.prog 16 #[.agg #[.int .i64 H, .int .i64 P, .int .i64 M, .int .u32 S], .slice A n c] W (fun e w' => e = .returned (.tuple #[.agg #[.int .i64 st2, .string b2], .int .i64 0]) ∧ Below W.heap.size W w') from by
    subst hn
    have h := blMake H P M S hS A c ts (by unfold maxLen; omega) W hW
    rw [hR2] at h
    exact h)
  have HMAY := Lib.hid (fun W => show Calls Try.prog 18 #[.agg #[.int .i64 H, .int .i64 P, .int .i64 M, .int .u32 S], .agg #[.int .i64 st, .string b], .string p] W fun e w' => e = .returned (.bool true) ∧ Below W.heap.size W w' from by
    have h := blMay H P M S hS st b p (Nat.le_trans hbz (by decide)) hp W
    have h2 := make_may (H := H) (P := P) (M := M) (S := S) (l := p :: ts) (p := p) (List.mem_cons_self)
    rw [hR] at h2
    rw [h2] at h
    exact h)
  have HLG := Lib.hid (show st = 2 → M ≤ m from fun h => by
    rcases hst with h1 | ⟨_, h1⟩
    · omega
    · have := HU.out
      rw [List.length_cons] at this
      omega)
  have HST := Lib.hid (show st = 1 ∨ st = 2 from hst.imp id And.left)
  have HBZ := Lib.hid hbz
  clear hz hzw hT hTl hR hst hR2 hst2 hR3 hbz hz0m
  have HWL := Lib.hid (show (p :: ts).length = 1 + m from by have := HTL.out; rw [List.length_cons]; omega)
  have HS0 := Lib.hid (set_new w H P M S 27)
  have HB0 := Lib.hid (bl_alloc (Below.refl _ w) (.cells #[.int .i64 H, .int .i64 P, .int .i64 M, .int .u32 S] 27))
  go_enter Try.func6, Try.ntmps6
  go_wp2_with (first
    | (go_at_call 8; (with_reducible refine (blFilters _).mono ?_); rintro r w1 ⟨rfl, hb⟩; have HS1 := Lib.hid (HS0.out.below hb); obtain ⟨s0, s1, s2, s3⟩ := HS0.out.below hb; have HB1 := Lib.hid (HB0.out.trans (hb.mono HB0.out.size)); clear hb)
    | (go_at_call 11; (with_reducible refine (C1.out _).mono ?_); rintro r w2 ⟨rfl, hb⟩; have HS2 := Lib.hid (HS1.out.below hb); have HB2 := Lib.hid (HB1.out.trans (hb.mono HB1.out.size)); have HT2 := Lib.hid (HT.out.below (HB1.out.trans (hb.mono HB1.out.size)) (Nat.le_refl _)); have HSZ2 := Lib.hid (World.block_lt_of_cell? w2 _ (HS1.out.below hb).1); clear hb)
    | (at_builtin; refine wpList_append_src _ rfl (.tmp 30) (.tmp 31) 34 rfl w2.heap.size 9 i0 (.string ⟨#[]⟩) 16 Try.underlying34 hi hz0 hz1 hz2 rfl _ 1 [.string p] rfl (one_own w2 (.string p) 9) a m cap (strsV ts) rfl (by rw [strsV, List.length_map, HTL.out]) HNA.out (strs_src (HT2.out.below (bl_alloc (Below.refl _ _) _) (Nat.le_refl _))) (strs_one ts) (by unfold maxLen; omega) (by omega) (by simp) ?_; intro v3 w3 hown hg hat; obtain ⟨g3, c3, rfl⟩ := own_some hown (by omega); generalize hLq : 1 + m = L at hown ⊢; have HLQ := Lib.hid hLq; have hL601 : L ≤ 601 := (by omega); have HO3 := Lib.hid (show w3.ownsRow w2.heap.size 9 1 (.slice (some ⟨g3, 0, none⟩) L c3) L (strsV (p :: ts)) from hown); have hb3 := (bl_alloc (Below.refl w2.heap.size w2) (.cells #[.string p] 9)).trans (grown_bel (g := w2.heap.size) hg (by simp) (Nat.le_refl _)); have HB3 := Lib.hid (HB2.out.trans (hb3.mono HB2.out.size)); have HS3 := Lib.hid (HS2.out.below hb3); have HT3 := Lib.hid (HT2.out.below hb3 (Nat.le_refl _)); clear hown hg hat hb3 hLq))
  have HRT := Lib.hid (fun j (h : j < (p :: ts).length) => rev_take (p :: ts) j h)
  have HWL2 := Lib.hid (show (p :: ts).length = L from by rw [HWL.out, HLQ.out])
  have hrl : ((p :: ts).reverse ++ (p :: ts).reverse).length = L + L := by rw [List.length_append, List.length_reverse, HWL2.out]
  have HRL := Lib.hid hrl
  have HZR := Lib.hid (show ∀ s ∈ (p :: ts).reverse ++ (p :: ts).reverse, s.size ≤ maxLen from fun s h => HZW.out s (by rcases List.mem_append.1 h with h | h <;> exact List.mem_reverse.1 h))
  clear hrl
  generalize p :: ts = W at *
  go_loopw [8, 35] (fun bv i wr => ∃ (j : Nat) (v : Value), j ≤ L ∧ bv = v ∧ i = .int .i64 j ∧ wr.ownsRow w3.heap.size 9 1 v j (strsV (W.reverse.take j)) ∧ Below w3.heap.size w3 wr) (fun _ i _ => L - (intOf i).toNat)
  case atStart => exact ⟨0, _, Nat.zero_le _, rfl, rfl, World.ownsRow_nil _ _ _ _, Below.refl _ _⟩
  case round =>
    obtain ⟨j, v, hj, rfl, rfl, hown, hbb⟩ := hrel
    have HO := Lib.hid hown; have HBB := Lib.hid hbb
    have hsz := hbb.size
    by_cases hlt : j < L
    · have hd : decide ((j : Int) < (L : Int)) = true := by simp; omega
      obtain ⟨ix, hix⟩ : ∃ ix, ix = L - 1 - j := ⟨_, rfl⟩
      have hixL : ix < W.length := by have := HWL2.out; omega
      have hsub : (L : Int) - 1 - (j : Int) = (ix : Int) := by omega
      have hc := (own_bel HO3.out HBB.out).cellAt ix (by omega)
      rw [show (strsV W)[ix]? = some (.string W[ix]) from by simp [strsV, hixL]] at hc
      have HTK := Lib.hid (HRT.out j (by have := HWL2.out; omega))
      have HXE := Lib.hid (show W[W.length - 1 - j]? = some W[ix] from by rw [show W.length - 1 - j = ix from by have := HWL2.out; omega]; exact List.getElem?_eq_getElem hixL)
      generalize W[ix] = x at *
      have HTE : Hid (strsV (W.reverse.take (j + 1)) = strsV (W.reverse.take j) ++ [.string x]) := Lib.hid (by rw [HTK.out, HXE.out]; simp [strsV])
      clear hix hown hbb
      go_wp2_with (at_builtin; go_must (refine wpList_append_lies _ rfl (.tmp 38) (.tmp 47) 34 rfl w3.heap.size 9 i0 (.string ⟨#[]⟩) 1 16 Try.underlying34 hi hz0 hz1 hz2 rfl (by decide) _ j _ rfl (HO.out.alloc _) ⟨wr.heap.size, 0, none⟩ 1 1 [.string x] rfl rfl (cells_one _ _ _) (by intro u hu; rw [List.mem_singleton.1 hu]; rfl) (by decide) (by unfold maxLen; omega) (by omega) (by simp; omega) (wr.heap.size + 1) (by simp) ?_; intro g cap2 w7 hown hg hat hlt3; have HB7 := Lib.hid (HBB.out.trans (below_ownE HO.out hg hsz)); have HO7 := Lib.hid hown; clear hown hg hat hlt3))
      go_roundw
      case rel => exact ⟨j + 1, _, by omega, rfl, by go_num, by rw [HTE.out]; exact HO7.out, HB7.out⟩
      case measure => simp [intOf]; omega
    · have hd : decide ((j : Int) < (L : Int)) = false := by simp; omega
      obtain rfl : j = L := by omega
      have hfull : W.reverse.take j = W.reverse := List.take_of_length_le (by rw [List.length_reverse, HWL2.out]; exact Nat.le_refl _)
      rw [hfull] at HO
      obtain ⟨g4, c4, rfl⟩ := own_some hown (by have := HLQ.out; omega)
      clear hfull hown hbb hd hlt hj
      have hW0 : StrsAt wr (some ⟨g3, 0, none⟩) W := strs_own2 (own_bel HO3.out HBB.out) rfl HWL2.out.symm HZW.out
      have HW0 := Lib.hid hW0
      have HSr := Lib.hid (HS3.out.below HBB.out)
      have HTr := Lib.hid (HT3.out.below HBB.out (Nat.le_refl _))
      have HBr := Lib.hid (HB3.out.trans (HBB.out.mono HB3.out.size))
      obtain ⟨s0, s1, s2, s3⟩ := HS3.out.below HBB.out
      clear hW0
      go_wp2_with (go_at_call 16; (with_reducible refine (M1.out _ _ _ _ HWL2.out.symm HW0.out).mono ?_); rintro r w4 ⟨rfl, hb⟩; have hx := bl_trans hb (bl_alloc (Below.refl _ w4) (.cells #[.int .i64 st, .string b] 36)); have HS4 := Lib.hid (HSr.out.below hx); have HT4 := Lib.hid (HTr.out.below hx (Nat.le_refl _)); have HB4 := Lib.hid (HBr.out.trans (hx.mono HBr.out.size)); have HF4 := Lib.hid (boxF_new w4 st b 36); have HO4 := Lib.hid (own_bel HO.out hx); have hw4s := hb.size; clear hb hx)
      generalize w4.alloc (.cells #[.int .i64 st, .string b] 36) = x4 at *
      have hq4 : w.heap.size < x4.heap.size := World.block_lt_of_cell? x4 _ HS4.out.1
      have hgq : w.heap.size < g4 := by have h1 := (HO.out.lt g4 rfl).1; have h2 := World.block_lt_of_cell? w3 _ HS3.out.1; simp only at h2; omega
      have hL1 : 1 ≤ j := by have := HLQ.out; omega
      have hg4w : g4 < w4.heap.size := by have := (HO.out.lt g4 rfl).2; omega
      clear s0 s1 s2 s3
      have HCB := Lib.hid (HO4.out.cells (g := g4) rfl)
      have hb34 : w3.heap.size ≤ x4.heap.size := by have := HO4.out.lt g4 rfl; omega
      go_wp2
      have hzx4 : w.heap.size ≤ x4.drew.heap.size := HB4.out.size
      have hw4x : w4.heap.size < x4.heap.size := World.block_lt_of_cell? x4 _ HF4.out.1
      go_region_held3 (fun w' => w'.cell? ⟨w.heap.size, 0, none⟩ = some (.int .i64 H) ∧ w'.cell? ⟨w.heap.size, 1, none⟩ = some (.int .i64 P) ∧ w'.cell? ⟨w.heap.size, 2, none⟩ = some (.int .i64 M) ∧ w'.cell? ⟨w.heap.size, 3, none⟩ = some (.int .u32 S))
        (first | exact HS7.out | exact HS6.out.below (bl_alloc (Below.refl _ _) _) | exact HS6.out | exact HS5.out.below (bl_alloc (Below.refl _ _) _) | exact HS5.out | exact HS4.out.drew.below (bl_alloc (Below.refl _ _) _) | exact HS4.out | go_keep)
        (first
          | (refine step_append_lies _ rfl (.tmp 58) (.tmp 59) 34 rfl w3.heap.size 9 i0 (.string ⟨#[]⟩) 1 16 Try.underlying34 hi hz0 hz1 hz2 rfl (by decide) (.slice (some ⟨g4, 0, none⟩) j c4) j (strsV W.reverse) rfl HO4.out.drew ⟨g4, 0, none⟩ j c4 (strsV W.reverse) rfl (by rw [strsV, List.length_map, List.length_reverse, HWL2.out, Nat.mul_one]) HCB.out (strs_one _) (by omega) (by unfold maxLen; omega) (by omega) hb34 _ rfl ?_; intro g5 c5 w5 hown hg hat hlt3; have HO5 := Lib.hid hown; have HS5 := Lib.hid (HS4.out.drew.grown hg (fun e => by simp [Value.ownBlock] at e; omega)); have HF5 := Lib.hid (HF4.out.grown (w := x4.drew) hg (fun e => by simp [Value.ownBlock] at e; omega)); have HB5 := Lib.hid (HB4.out.drew.grown hg hzx4 (fun k hk => by simp [Value.ownBlock] at hk; omega)); have hz45 : x4.heap.size ≤ w5.heap.size := hg.size; clear hown hg hat hlt3)
          | (refine step_append_lies _ rfl (.tmp 58) (.tmp 59) 34 rfl w3.heap.size 9 i0 (.string ⟨#[]⟩) 1 16 Try.underlying34 hi hz0 hz1 hz2 rfl (by decide) (.slice (some ⟨g4, 0, none⟩) j c4) j (strsV W.reverse) rfl (HO4.out.drew.alloc (.cells #[.int .i64 0, .string ⟨#[]⟩] 36)) ⟨g4, 0, none⟩ j c4 (strsV W.reverse) rfl (by rw [strsV, List.length_map, List.length_reverse, HWL2.out, Nat.mul_one]) ((HO4.out.drew.alloc (.cells #[.int .i64 0, .string ⟨#[]⟩] 36)).cells (g := g4) rfl) (strs_one _) (by omega) (by unfold maxLen; omega) (by omega) (by simp; omega) _ rfl ?_; intro g5 c5 w5 hown hg hat hlt3; have HO5 := Lib.hid hown; have HS5 := Lib.hid ((HS4.out.drew.below (bl_alloc (Below.refl _ _) (.cells #[.int .i64 0, .string ⟨#[]⟩] 36))).grown hg (fun e => by simp [Value.ownBlock] at e; omega)); have HF5 := Lib.hid ((HF4.out.below (bl_alloc (Below.refl _ _) (.cells #[.int .i64 0, .string ⟨#[]⟩] 36))).grown (w := x4.drew.alloc (.cells #[.int .i64 0, .string ⟨#[]⟩] 36)) hg (fun e => by simp [Value.ownBlock] at e; omega)); have HB5 := Lib.hid ((bl_alloc HB4.out.drew (.cells #[.int .i64 0, .string ⟨#[]⟩] 36)).grown hg (by simp; omega) (fun k hk => by simp [Value.ownBlock] at hk; omega)); have HZ5 := Lib.hid (show w5.heap[x4.heap.size]? = some (.cells #[.int .i64 0, .string ⟨#[]⟩] 36 (0, 0)) from by rw [hg.block x4.heap.size (by simp) (fun e => by simp [Value.ownBlock] at e; have := (HO4.out.lt g4 rfl).2; omega)]; exact heap_alloc_new x4.drew _); clear hown hg hat hlt3)
          | (go_at_call 16; (with_reducible refine (M2.out _ _ _ _ HRL.out.symm (strs_own2 HO5.out (by rw [strsV_append]) HRL.out.symm HZR.out)).mono ?_); rintro r w6 ⟨rfl, hb⟩; have hr6 := row_below HZ5.out hb; have k0 : w6.cell? ⟨x4.heap.size, 0, none⟩ = some (.int .i64 0) := (by rw [cell_of_row _ _ _ _ _ _ hr6]; rfl); have k1 : w6.cell? ⟨x4.heap.size, 1, none⟩ = some (.string ⟨#[]⟩) := (by rw [cell_of_row _ _ _ _ _ _ hr6]; rfl); have k2 := frozen_of_row w6 x4.heap.size 0 _ _ hr6; have k3 := frozen_of_row w6 x4.heap.size 1 _ _ hr6; have HS6 := Lib.hid (HS5.out.below hb); have HS7 := Lib.hid ((HS5.out.below hb).upto (two_set w6 x4.heap.size (.int .i64 st) (.string b)) (by omega)); have HFX := Lib.hid ((HF5.out.below hb).upto (two_set w6 x4.heap.size (.int .i64 st) (.string b)) (by omega)); have HGX := Lib.hid (box_two (st := st) (b := b) hr6); have HBX := Lib.hid ((HB5.out.trans (hb.mono HB5.out.size)).trans ((two_set w6 x4.heap.size (.int .i64 st) (.string b)).mono (by omega))); clear hr6; clear hb)
          | (go_at_call 16; (with_reducible refine (M2.out _ _ _ _ HRL.out.symm (strs_own2 (HO5.out.alloc (.cells #[.int .i64 0, .string ⟨#[]⟩] 36)) (by rw [strsV_append]) HRL.out.symm HZR.out)).mono ?_); rintro r w6 ⟨rfl, hb⟩; have hr6 := row_below (heap_alloc_new w5 (.cells #[.int .i64 0, .string ⟨#[]⟩] 36)) hb; have k0 : w6.cell? ⟨w5.heap.size, 0, none⟩ = some (.int .i64 0) := (by rw [cell_of_row _ _ _ _ _ _ hr6]; rfl); have k1 : w6.cell? ⟨w5.heap.size, 1, none⟩ = some (.string ⟨#[]⟩) := (by rw [cell_of_row _ _ _ _ _ _ hr6]; rfl); have k2 := frozen_of_row w6 w5.heap.size 0 _ _ hr6; have k3 := frozen_of_row w6 w5.heap.size 1 _ _ hr6; have HS6 := Lib.hid ((HS5.out.below (bl_alloc (Below.refl _ _) (.cells #[.int .i64 0, .string ⟨#[]⟩] 36))).below hb); have HS7 := Lib.hid (((HS5.out.below (bl_alloc (Below.refl _ _) (.cells #[.int .i64 0, .string ⟨#[]⟩] 36))).below hb).upto (two_set w6 w5.heap.size (.int .i64 st) (.string b)) (by omega)); have HFX := Lib.hid (((HF5.out.below (bl_alloc (Below.refl _ _) (.cells #[.int .i64 0, .string ⟨#[]⟩] 36))).below hb).upto (two_set w6 w5.heap.size (.int .i64 st) (.string b)) (by omega)); have HGX := Lib.hid (box_two (st := st) (b := b) hr6); have HBX := Lib.hid (((bl_alloc HB5.out (.cells #[.int .i64 0, .string ⟨#[]⟩] 36)).trans (hb.mono (bl_alloc HB5.out (.cells #[.int .i64 0, .string ⟨#[]⟩] 36)).size)).trans ((two_set w6 w5.heap.size (.int .i64 st) (.string b)).mono (by omega))); clear hr6; clear hb)
          | (go_at_call 16; (with_reducible refine (M2.out _ _ _ _ HRL.out.symm (strs_own2 HO5.out (by rw [strsV_append]) HRL.out.symm HZR.out)).mono ?_); rintro r w6 ⟨rfl, hb⟩; have HS6 := Lib.hid (HS5.out.below hb); have HS7 := Lib.hid ((HS5.out.below hb).below (bl_alloc (Below.refl _ _) (.cells #[.int .i64 st, .string b] 36))); have HFX := Lib.hid ((HF5.out.below hb).below (bl_alloc (Below.refl _ _) (.cells #[.int .i64 st, .string b] 36))); have HGX := Lib.hid (boxF_new w6 st b 36); have HBX := Lib.hid (bl_alloc (HB5.out.trans (hb.mono HB5.out.size)) (.cells #[.int .i64 st, .string b] 36)); clear hb))
      all_goals
        first
          | (obtain ⟨xx, hxx⟩ : ∃ xx : World, w6.alloc (.cells #[.int .i64 st, .string b] 36) = xx := ⟨_, rfl⟩; rw [hxx] at HS7 HFX HGX HBX ⊢; clear hxx)
          | (obtain ⟨xx, hxx⟩ : ∃ xx : World, ((w6.setCell ⟨w5.heap.size, 0, none⟩ (.int .i64 st)).setCell ⟨w5.heap.size, 1, none⟩ (.string b)) = xx := ⟨_, rfl⟩; rw [hxx] at HS7 HFX HGX HBX ⊢; clear hxx)
          | (obtain ⟨xx, hxx⟩ : ∃ xx : World, ((w6.setCell ⟨x4.heap.size, 0, none⟩ (.int .i64 st)).setCell ⟨x4.heap.size, 1, none⟩ (.string b)) = xx := ⟨_, rfl⟩; rw [hxx] at HS7 HFX HGX HBX ⊢; clear hxx)
        have HTX := Lib.hid (HT.out.below HBX.out (Nat.le_refl _))
        have d0 : ((st : Int) == 0) = false := by rcases HST.out with h | h <;> simp [h]
        obtain ⟨f0, f1⟩ := HFX.out
        obtain ⟨g0, g1⟩ := HGX.out
        obtain ⟨s0, s1, s2, s3⟩ := HS7.out
        try clear k0 k1 k2 k3
        have hbsz : b.size ≤ 4100 := HBZ.out
        have hdd : ((st : Int) == 2) = false ∨ (((st : Int) == 2) = true ∧ decide ((m : Int) < M) = false) := by
          rcases HST.out with h | h
          · exact .inl (by simp [h])
          · exact .inr ⟨by simp [h], by have := HLG.out h; simp; omega⟩
        rcases hdd with d2 | ⟨d2, dM⟩
        all_goals
          by_cases hss : st2 = st
          · have e1 : ((st2 : Int) != (st : Int)) = false := by simp [hss]
            by_cases hsb : b2.size = b.size
            · have e2 : ((b2.size : Int) != (b.size : Int)) = false := by simp [hsb]
              have HSB := Lib.hid (HSUB.out hss hsb)
              have hb2z : b2.size ≤ 4100 := by omega
              have HEQ := Lib.hid hsb
              clear hss hsb
              go_wp2_with (first
                | (go_at_call 18; (with_reducible refine (HMAY.out _).mono ?_); rintro r w8 ⟨rfl, hb⟩; have HT8 := Lib.hid (HTX.out.below hb (Nat.le_refl _)); have HB8 := Lib.hid (HBX.out.trans (hb.mono HBX.out.size)); have HF8 := Lib.hid (HFX.out.below hb); obtain ⟨f0, f1⟩ := HFX.out.below hb; obtain ⟨s0, s1, s2, s3⟩ := HS7.out.below hb; clear hb)
                | (go_at_call 16; (with_reducible refine (M3.out _ _ _ _ HTL.out.symm HT8.out).mono ?_); rintro r w9 ⟨rfl, hb⟩; have hx := bl_trans hb (bl_alloc (Below.refl _ w9) (.cells #[.int .i64 st2, .string b2] 36)); have HB9 := Lib.hid (HB8.out.trans (hx.mono HB8.out.size)); have HF9 := Lib.hid (HF8.out.below hx); have HG9 := Lib.hid (boxF_new w9 st2 b2 36); obtain ⟨f0, f1⟩ := HF8.out.below hx; obtain ⟨g0, g1⟩ := boxF_new w9 st2 b2 36; clear hb hx))
              generalize w9.alloc (.cells #[.int .i64 st2, .string b2] 36) = x9 at *
              go_loopw [128] (fun i wr => ∃ q : Nat, q ≤ b.size ∧ i = .int .i64 q ∧ Below x9.heap.size x9 wr) (fun i _ => b.size - (intOf i).toNat)
              case atStart => exact ⟨0, Nat.zero_le _, rfl, Below.refl _ _⟩
              case round =>
                obtain ⟨q, hq, rfl, hbq⟩ := hrel
                have HBQ := Lib.hid hbq
                clear hbq
                by_cases hlt : q < b.size
                · have hd : decide ((q : Int) < (b.size : Int)) = true := by simp; omega
                  obtain ⟨f0, f1⟩ := HF9.out.below HBQ.out
                  obtain ⟨g0, g1⟩ := HG9.out.below HBQ.out
                  have hq2 : q < b2.size := by have := HEQ.out; omega
                  have hz := HSB.out q hq2 hlt
                  have hqi : (q : Int) < b.size := by omega
                  have hqi2 : (q : Int) < b2.size := by omega
                  go_wp2
                  go_region
                  all_goals
                    go_wp2
                    go_roundw
                    case rel => exact ⟨q + 1, by omega, by go_num, HBQ.out.drew⟩
                    case measure => simp [intOf]; omega
                · have hd : decide ((q : Int) < (b.size : Int)) = false := by simp; omega
                  go_wp2
                  go_ret
                  exact ⟨rfl, HB9.out.trans (HBQ.out.mono HB9.out.size)⟩
            · have e2 : ((b2.size : Int) != (b.size : Int)) = true := by simp; omega
              clear hss hsb
              go_wp2_with (first
                | (go_at_call 18; (with_reducible refine (HMAY.out _).mono ?_); rintro r w8 ⟨rfl, hb⟩; have HT8 := Lib.hid (HTX.out.below hb (Nat.le_refl _)); have HB8 := Lib.hid (HBX.out.trans (hb.mono HBX.out.size)); have HF8 := Lib.hid (HFX.out.below hb); obtain ⟨f0, f1⟩ := HFX.out.below hb; obtain ⟨s0, s1, s2, s3⟩ := HS7.out.below hb; clear hb)
                | (go_at_call 16; (with_reducible refine (M3.out _ _ _ _ HTL.out.symm HT8.out).mono ?_); rintro r w9 ⟨rfl, hb⟩; have hx := bl_trans hb (bl_alloc (Below.refl _ w9) (.cells #[.int .i64 st2, .string b2] 36)); have HB9 := Lib.hid (HB8.out.trans (hx.mono HB8.out.size)); obtain ⟨f0, f1⟩ := HF8.out.below hx; obtain ⟨g0, g1⟩ := boxF_new w9 st2 b2 36; clear hb hx))
              go_ret
              exact ⟨rfl, HB9.out⟩
          · have e1 : ((st2 : Int) != (st : Int)) = true := by simp; omega
            clear hss
            go_wp2_with (first
              | (go_at_call 18; (with_reducible refine (HMAY.out _).mono ?_); rintro r w8 ⟨rfl, hb⟩; have HT8 := Lib.hid (HTX.out.below hb (Nat.le_refl _)); have HB8 := Lib.hid (HBX.out.trans (hb.mono HBX.out.size)); have HF8 := Lib.hid (HFX.out.below hb); obtain ⟨f0, f1⟩ := HFX.out.below hb; obtain ⟨s0, s1, s2, s3⟩ := HS7.out.below hb; clear hb)
              | (go_at_call 16; (with_reducible refine (M3.out _ _ _ _ HTL.out.symm HT8.out).mono ?_); rintro r w9 ⟨rfl, hb⟩; have hx := bl_trans hb (bl_alloc (Below.refl _ w9) (.cells #[.int .i64 st2, .string b2] 36)); have HB9 := Lib.hid (HB8.out.trans (hx.mono HB8.out.size)); obtain ⟨f0, f1⟩ := HF8.out.below hx; obtain ⟨g0, g1⟩ := boxF_new w9 st2 b2 36; clear hb hx))
            go_ret
            exact ⟨rfl, HB9.out⟩

set_option maxHeartbeats 4000000 in
set_option maxRecDepth 100000 in
theorem bloomTells_long (H P M : Int) (S : Nat) (hc : chkR H P M = 0) (hS : S < 4294967296) (a : Option Addr) (cap : Nat) (ss : List ByteArray) (p : ByteArray) (hp : p.size ≤ maxLen) (hl : ss.length ≤ cap) (hcm : cap ≤ maxLen) (hnone : a = none → cap = 0) (w : World) (hs : StrsAt w a ss) (h600 : ¬ ss.length ≤ 600) :
    Calls Try.prog 6 #[.agg #[.int .i64 H, .int .i64 P, .int .i64 M, .int .u32 S], .slice a ss.length cap, .string p] w fun e w' => e = .returned (.bool true) ∧ Below w.heap.size w w' := by
  unfold maxLen at hcm
  obtain ⟨i0, hi, hz0, hz1, hz2⟩ := info_parts infoStr
  have C1 := Lib.hid (fun W => blCheck H P M S W)
  rw [hc] at C1
  have HCC := Lib.hid hc
  have hz0m := chk_zero hc
  have hT : StrsAt w a (ss.take 600) := strs_take hs _
  have hTl : (ss.take 600).length = 600 := by rw [List.length_take]; omega
  have HNA := Lib.hid (show a = none → 600 = 0 ∧ cap = 0 from fun h => ⟨by have := hnone h; omega, hnone h⟩)
  have hmn : ¬ ((ss.length : Int) ≤ 600) := by omega
  have hls : (ss.length : Int) ≤ 9223372036854775807 := by omega
  have hlc : (ss.length : Int) ≤ cap := by omega
  have hmc : 600 ≤ cap := by omega
  have hm1 : 600 ≤ 600 := by omega
  clear hs hnone h600 hc
  generalize ss.take 600 = ts at *
  have HTL := Lib.hid hTl
  have hz : ∀ s ∈ ts, s.size ≤ maxLen := fun s h => by obtain ⟨i, hi, rfl⟩ := List.getElem_of_mem h; exact (hT i hi).1
  have hzw : ∀ s ∈ p :: ts, s.size ≤ maxLen := fun s h => by
    rcases List.mem_cons.1 h with rfl | h1
    · exact hp
    · exact hz s h1
  have HZW := Lib.hid hzw
  have HT := Lib.hid hT
  have hTl2 : ts.length ≤ 600 := by omega
  obtain ⟨st, b, hR, hst⟩ := makeR_good (S := S) (l := p :: ts) HCC.out
  obtain ⟨st2, b2, hR2, hst2⟩ := makeR_good (S := S) (l := ts) HCC.out
  have HU := Lib.hid (uniq_len (p :: ts))
  have HREV := Lib.hid (show ∀ x, x ∈ p :: ts ↔ x ∈ (p :: ts).reverse ++ (p :: ts).reverse from fun x => by simp only [List.mem_append, List.mem_reverse, or_self])
  have hR3 : makeR H P M S ((p :: ts).reverse ++ (p :: ts).reverse) = (0, (st, b)) := by rw [← makeR_congr HREV.out]; exact hR
  have HSUB := Lib.hid (fun (e : st2 = st) (hs : b2.size = b.size) => make_sub (b := b2) (c := b) (fun q (hq : q ∈ ts) => List.mem_cons_of_mem p hq) hR2 (e ▸ hR) hs)
  have hbz : b.size ≤ 4100 := by have := make_size (H := H) (P := P) (M := M) (S := S) (l := p :: ts); rw [hR] at this; exact this
  have M1 := Lib.hid (fun W A c n (hn : n = (p :: ts).length) (hW : StrsAt W A (p :: ts)) => show Calls Try.prog 16 #[.agg #[.int .i64 H, .int .i64 P, .int .i64 M, .int .u32 S], .slice A n c] W (fun e w' => e = .returned (.tuple #[.agg #[.int .i64 st, .string b], .int .i64 0]) ∧ Below W.heap.size W w') from by
    subst hn
    have h := blMake H P M S hS A c (p :: ts) (by unfold maxLen; rw [List.length_cons]; omega) W hW
    rw [hR] at h
    exact h)
  have M2 := Lib.hid (fun W A c n (hn : n = ((p :: ts).reverse ++ (p :: ts).reverse).length) (hW : StrsAt W A ((p :: ts).reverse ++ (p :: ts).reverse)) => show Calls Try.prog 16 #[.agg #[.int .i64 H, .int .i64 P, .int .i64 M, .int .u32 S], .slice A n c] W (fun e w' => e = .returned (.tuple #[.agg #[.int .i64 st, .string b], .int .i64 0]) ∧ Below W.heap.size W w') from by
    subst hn
    have h := blMake H P M S hS A c ((p :: ts).reverse ++ (p :: ts).reverse) (by unfold maxLen; rw [List.length_append, List.length_reverse, List.length_cons]; omega) W hW
    rw [hR3] at h
    exact h)
  have M3 := Lib.hid (fun W A c n (hn : n = ts.length) (hW : StrsAt W A ts) => show Calls Try.prog 16 #[.agg #[.int .i64 H, .int .i64 P, .int .i64 M, .int .u32 S], .slice A n c] W (fun e w' => e = .returned (.tuple #[.agg #[.int .i64 st2, .string b2], .int .i64 0]) ∧ Below W.heap.size W w') from by
    subst hn
    have h := blMake H P M S hS A c ts (by unfold maxLen; omega) W hW
    rw [hR2] at h
    exact h)
  have HMAY := Lib.hid (fun W => show Calls Try.prog 18 #[.agg #[.int .i64 H, .int .i64 P, .int .i64 M, .int .u32 S], .agg #[.int .i64 st, .string b], .string p] W fun e w' => e = .returned (.bool true) ∧ Below W.heap.size W w' from by
    have h := blMay H P M S hS st b p (Nat.le_trans hbz (by decide)) hp W
    have h2 := make_may (H := H) (P := P) (M := M) (S := S) (l := p :: ts) (p := p) (List.mem_cons_self)
    rw [hR] at h2
    rw [h2] at h
    exact h)
  have HLG := Lib.hid (show st = 2 → M ≤ 600 from fun h => by
    rcases hst with h1 | ⟨_, h1⟩
    · omega
    · have := HU.out
      rw [List.length_cons] at this
      omega)
  have HST := Lib.hid (show st = 1 ∨ st = 2 from hst.imp id And.left)
  have HBZ := Lib.hid hbz
  clear hz hzw hT hTl hR hst hR2 hst2 hR3 hbz hz0m
  have HWL := Lib.hid (show (p :: ts).length = 1 + 600 from by have := HTL.out; rw [List.length_cons]; omega)
  have HS0 := Lib.hid (set_new w H P M S 27)
  have HB0 := Lib.hid (bl_alloc (Below.refl _ w) (.cells #[.int .i64 H, .int .i64 P, .int .i64 M, .int .u32 S] 27))
  go_enter Try.func6, Try.ntmps6
  go_wp2_with (first
    | (go_at_call 8; (with_reducible refine (blFilters _).mono ?_); rintro r w1 ⟨rfl, hb⟩; have HS1 := Lib.hid (HS0.out.below hb); obtain ⟨s0, s1, s2, s3⟩ := HS0.out.below hb; have HB1 := Lib.hid (HB0.out.trans (hb.mono HB0.out.size)); clear hb)
    | (go_at_call 11; (with_reducible refine (C1.out _).mono ?_); rintro r w2 ⟨rfl, hb⟩; have HS2 := Lib.hid (HS1.out.below hb); have HB2 := Lib.hid (HB1.out.trans (hb.mono HB1.out.size)); have HT2 := Lib.hid (HT.out.below (HB1.out.trans (hb.mono HB1.out.size)) (Nat.le_refl _)); have HSZ2 := Lib.hid (World.block_lt_of_cell? w2 _ (HS1.out.below hb).1); clear hb)
    | (at_builtin; refine wpList_append_src _ rfl (.tmp 30) (.tmp 31) 34 rfl w2.heap.size 9 i0 (.string ⟨#[]⟩) 16 Try.underlying34 hi hz0 hz1 hz2 rfl _ 1 [.string p] rfl (one_own w2 (.string p) 9) a 600 cap (strsV ts) rfl (by rw [strsV, List.length_map, HTL.out]) HNA.out (strs_src (HT2.out.below (bl_alloc (Below.refl _ _) _) (Nat.le_refl _))) (strs_one ts) (by unfold maxLen; omega) (by omega) (by simp) ?_; intro v3 w3 hown hg hat; obtain ⟨g3, c3, rfl⟩ := own_some hown (by omega); generalize hLq : 1 + 600 = L at hown ⊢; have HLQ := Lib.hid hLq; have hL601 : L ≤ 601 := (by omega); have HO3 := Lib.hid (show w3.ownsRow w2.heap.size 9 1 (.slice (some ⟨g3, 0, none⟩) L c3) L (strsV (p :: ts)) from hown); have hb3 := (bl_alloc (Below.refl w2.heap.size w2) (.cells #[.string p] 9)).trans (grown_bel (g := w2.heap.size) hg (by simp) (Nat.le_refl _)); have HB3 := Lib.hid (HB2.out.trans (hb3.mono HB2.out.size)); have HS3 := Lib.hid (HS2.out.below hb3); have HT3 := Lib.hid (HT2.out.below hb3 (Nat.le_refl _)); clear hown hg hat hb3 hLq))
  have HRT := Lib.hid (fun j (h : j < (p :: ts).length) => rev_take (p :: ts) j h)
  have HWL2 := Lib.hid (show (p :: ts).length = L from by rw [HWL.out, HLQ.out])
  have hrl : ((p :: ts).reverse ++ (p :: ts).reverse).length = L + L := by rw [List.length_append, List.length_reverse, HWL2.out]
  have HRL := Lib.hid hrl
  have HZR := Lib.hid (show ∀ s ∈ (p :: ts).reverse ++ (p :: ts).reverse, s.size ≤ maxLen from fun s h => HZW.out s (by rcases List.mem_append.1 h with h | h <;> exact List.mem_reverse.1 h))
  clear hrl
  generalize p :: ts = W at *
  go_loopw [8, 35] (fun bv i wr => ∃ (j : Nat) (v : Value), j ≤ L ∧ bv = v ∧ i = .int .i64 j ∧ wr.ownsRow w3.heap.size 9 1 v j (strsV (W.reverse.take j)) ∧ Below w3.heap.size w3 wr) (fun _ i _ => L - (intOf i).toNat)
  case atStart => exact ⟨0, _, Nat.zero_le _, rfl, rfl, World.ownsRow_nil _ _ _ _, Below.refl _ _⟩
  case round =>
    obtain ⟨j, v, hj, rfl, rfl, hown, hbb⟩ := hrel
    have HO := Lib.hid hown; have HBB := Lib.hid hbb
    have hsz := hbb.size
    by_cases hlt : j < L
    · have hd : decide ((j : Int) < (L : Int)) = true := by simp; omega
      obtain ⟨ix, hix⟩ : ∃ ix, ix = L - 1 - j := ⟨_, rfl⟩
      have hixL : ix < W.length := by have := HWL2.out; omega
      have hsub : (L : Int) - 1 - (j : Int) = (ix : Int) := by omega
      have hc := (own_bel HO3.out HBB.out).cellAt ix (by omega)
      rw [show (strsV W)[ix]? = some (.string W[ix]) from by simp [strsV, hixL]] at hc
      have HTK := Lib.hid (HRT.out j (by have := HWL2.out; omega))
      have HXE := Lib.hid (show W[W.length - 1 - j]? = some W[ix] from by rw [show W.length - 1 - j = ix from by have := HWL2.out; omega]; exact List.getElem?_eq_getElem hixL)
      generalize W[ix] = x at *
      have HTE : Hid (strsV (W.reverse.take (j + 1)) = strsV (W.reverse.take j) ++ [.string x]) := Lib.hid (by rw [HTK.out, HXE.out]; simp [strsV])
      clear hix hown hbb
      go_wp2_with (at_builtin; go_must (refine wpList_append_lies _ rfl (.tmp 38) (.tmp 47) 34 rfl w3.heap.size 9 i0 (.string ⟨#[]⟩) 1 16 Try.underlying34 hi hz0 hz1 hz2 rfl (by decide) _ j _ rfl (HO.out.alloc _) ⟨wr.heap.size, 0, none⟩ 1 1 [.string x] rfl rfl (cells_one _ _ _) (by intro u hu; rw [List.mem_singleton.1 hu]; rfl) (by decide) (by unfold maxLen; omega) (by omega) (by simp; omega) (wr.heap.size + 1) (by simp) ?_; intro g cap2 w7 hown hg hat hlt3; have HB7 := Lib.hid (HBB.out.trans (below_ownE HO.out hg hsz)); have HO7 := Lib.hid hown; clear hown hg hat hlt3))
      go_roundw
      case rel => exact ⟨j + 1, _, by omega, rfl, by go_num, by rw [HTE.out]; exact HO7.out, HB7.out⟩
      case measure => simp [intOf]; omega
    · have hd : decide ((j : Int) < (L : Int)) = false := by simp; omega
      obtain rfl : j = L := by omega
      have hfull : W.reverse.take j = W.reverse := List.take_of_length_le (by rw [List.length_reverse, HWL2.out]; exact Nat.le_refl _)
      rw [hfull] at HO
      obtain ⟨g4, c4, rfl⟩ := own_some hown (by have := HLQ.out; omega)
      clear hfull hown hbb hd hlt hj
      have hW0 : StrsAt wr (some ⟨g3, 0, none⟩) W := strs_own2 (own_bel HO3.out HBB.out) rfl HWL2.out.symm HZW.out
      have HW0 := Lib.hid hW0
      have HSr := Lib.hid (HS3.out.below HBB.out)
      have HTr := Lib.hid (HT3.out.below HBB.out (Nat.le_refl _))
      have HBr := Lib.hid (HB3.out.trans (HBB.out.mono HB3.out.size))
      obtain ⟨s0, s1, s2, s3⟩ := HS3.out.below HBB.out
      clear hW0
      go_wp2_with (go_at_call 16; (with_reducible refine (M1.out _ _ _ _ HWL2.out.symm HW0.out).mono ?_); rintro r w4 ⟨rfl, hb⟩; have hx := bl_trans hb (bl_alloc (Below.refl _ w4) (.cells #[.int .i64 st, .string b] 36)); have HS4 := Lib.hid (HSr.out.below hx); have HT4 := Lib.hid (HTr.out.below hx (Nat.le_refl _)); have HB4 := Lib.hid (HBr.out.trans (hx.mono HBr.out.size)); have HF4 := Lib.hid (boxF_new w4 st b 36); have HO4 := Lib.hid (own_bel HO.out hx); have hw4s := hb.size; clear hb hx)
      generalize w4.alloc (.cells #[.int .i64 st, .string b] 36) = x4 at *
      have hq4 : w.heap.size < x4.heap.size := World.block_lt_of_cell? x4 _ HS4.out.1
      have hgq : w.heap.size < g4 := by have h1 := (HO.out.lt g4 rfl).1; have h2 := World.block_lt_of_cell? w3 _ HS3.out.1; simp only at h2; omega
      have hL1 : 1 ≤ j := by have := HLQ.out; omega
      have hg4w : g4 < w4.heap.size := by have := (HO.out.lt g4 rfl).2; omega
      clear s0 s1 s2 s3
      have HCB := Lib.hid (HO4.out.cells (g := g4) rfl)
      have hb34 : w3.heap.size ≤ x4.heap.size := by have := HO4.out.lt g4 rfl; omega
      go_wp2
      have hzx4 : w.heap.size ≤ x4.drew.heap.size := HB4.out.size
      have hw4x : w4.heap.size < x4.heap.size := World.block_lt_of_cell? x4 _ HF4.out.1
      go_region_held3 (fun w' => w'.cell? ⟨w.heap.size, 0, none⟩ = some (.int .i64 H) ∧ w'.cell? ⟨w.heap.size, 1, none⟩ = some (.int .i64 P) ∧ w'.cell? ⟨w.heap.size, 2, none⟩ = some (.int .i64 M) ∧ w'.cell? ⟨w.heap.size, 3, none⟩ = some (.int .u32 S))
        (first | exact HS7.out | exact HS6.out.below (bl_alloc (Below.refl _ _) _) | exact HS6.out | exact HS5.out.below (bl_alloc (Below.refl _ _) _) | exact HS5.out | exact HS4.out.drew.below (bl_alloc (Below.refl _ _) _) | exact HS4.out | go_keep)
        (first
          | (refine step_append_lies _ rfl (.tmp 58) (.tmp 59) 34 rfl w3.heap.size 9 i0 (.string ⟨#[]⟩) 1 16 Try.underlying34 hi hz0 hz1 hz2 rfl (by decide) (.slice (some ⟨g4, 0, none⟩) j c4) j (strsV W.reverse) rfl HO4.out.drew ⟨g4, 0, none⟩ j c4 (strsV W.reverse) rfl (by rw [strsV, List.length_map, List.length_reverse, HWL2.out, Nat.mul_one]) HCB.out (strs_one _) (by omega) (by unfold maxLen; omega) (by omega) hb34 _ rfl ?_; intro g5 c5 w5 hown hg hat hlt3; have HO5 := Lib.hid hown; have HS5 := Lib.hid (HS4.out.drew.grown hg (fun e => by simp [Value.ownBlock] at e; omega)); have HF5 := Lib.hid (HF4.out.grown (w := x4.drew) hg (fun e => by simp [Value.ownBlock] at e; omega)); have HB5 := Lib.hid (HB4.out.drew.grown hg hzx4 (fun k hk => by simp [Value.ownBlock] at hk; omega)); have hz45 : x4.heap.size ≤ w5.heap.size := hg.size; clear hown hg hat hlt3)
          | (refine step_append_lies _ rfl (.tmp 58) (.tmp 59) 34 rfl w3.heap.size 9 i0 (.string ⟨#[]⟩) 1 16 Try.underlying34 hi hz0 hz1 hz2 rfl (by decide) (.slice (some ⟨g4, 0, none⟩) j c4) j (strsV W.reverse) rfl (HO4.out.drew.alloc (.cells #[.int .i64 0, .string ⟨#[]⟩] 36)) ⟨g4, 0, none⟩ j c4 (strsV W.reverse) rfl (by rw [strsV, List.length_map, List.length_reverse, HWL2.out, Nat.mul_one]) ((HO4.out.drew.alloc (.cells #[.int .i64 0, .string ⟨#[]⟩] 36)).cells (g := g4) rfl) (strs_one _) (by omega) (by unfold maxLen; omega) (by omega) (by simp; omega) _ rfl ?_; intro g5 c5 w5 hown hg hat hlt3; have HO5 := Lib.hid hown; have HS5 := Lib.hid ((HS4.out.drew.below (bl_alloc (Below.refl _ _) (.cells #[.int .i64 0, .string ⟨#[]⟩] 36))).grown hg (fun e => by simp [Value.ownBlock] at e; omega)); have HF5 := Lib.hid ((HF4.out.below (bl_alloc (Below.refl _ _) (.cells #[.int .i64 0, .string ⟨#[]⟩] 36))).grown (w := x4.drew.alloc (.cells #[.int .i64 0, .string ⟨#[]⟩] 36)) hg (fun e => by simp [Value.ownBlock] at e; omega)); have HB5 := Lib.hid ((bl_alloc HB4.out.drew (.cells #[.int .i64 0, .string ⟨#[]⟩] 36)).grown hg (by simp; omega) (fun k hk => by simp [Value.ownBlock] at hk; omega)); have HZ5 := Lib.hid (show w5.heap[x4.heap.size]? = some (.cells #[.int .i64 0, .string ⟨#[]⟩] 36 (0, 0)) from by rw [hg.block x4.heap.size (by simp) (fun e => by simp [Value.ownBlock] at e; have := (HO4.out.lt g4 rfl).2; omega)]; exact heap_alloc_new x4.drew _); clear hown hg hat hlt3)
          | (go_at_call 16; (with_reducible refine (M2.out _ _ _ _ HRL.out.symm (strs_own2 HO5.out (by rw [strsV_append]) HRL.out.symm HZR.out)).mono ?_); rintro r w6 ⟨rfl, hb⟩; have hr6 := row_below HZ5.out hb; have k0 : w6.cell? ⟨x4.heap.size, 0, none⟩ = some (.int .i64 0) := (by rw [cell_of_row _ _ _ _ _ _ hr6]; rfl); have k1 : w6.cell? ⟨x4.heap.size, 1, none⟩ = some (.string ⟨#[]⟩) := (by rw [cell_of_row _ _ _ _ _ _ hr6]; rfl); have k2 := frozen_of_row w6 x4.heap.size 0 _ _ hr6; have k3 := frozen_of_row w6 x4.heap.size 1 _ _ hr6; have HS6 := Lib.hid (HS5.out.below hb); have HS7 := Lib.hid ((HS5.out.below hb).upto (two_set w6 x4.heap.size (.int .i64 st) (.string b)) (by omega)); have HFX := Lib.hid ((HF5.out.below hb).upto (two_set w6 x4.heap.size (.int .i64 st) (.string b)) (by omega)); have HGX := Lib.hid (box_two (st := st) (b := b) hr6); have HBX := Lib.hid ((HB5.out.trans (hb.mono HB5.out.size)).trans ((two_set w6 x4.heap.size (.int .i64 st) (.string b)).mono (by omega))); clear hr6; clear hb)
          | (go_at_call 16; (with_reducible refine (M2.out _ _ _ _ HRL.out.symm (strs_own2 (HO5.out.alloc (.cells #[.int .i64 0, .string ⟨#[]⟩] 36)) (by rw [strsV_append]) HRL.out.symm HZR.out)).mono ?_); rintro r w6 ⟨rfl, hb⟩; have hr6 := row_below (heap_alloc_new w5 (.cells #[.int .i64 0, .string ⟨#[]⟩] 36)) hb; have k0 : w6.cell? ⟨w5.heap.size, 0, none⟩ = some (.int .i64 0) := (by rw [cell_of_row _ _ _ _ _ _ hr6]; rfl); have k1 : w6.cell? ⟨w5.heap.size, 1, none⟩ = some (.string ⟨#[]⟩) := (by rw [cell_of_row _ _ _ _ _ _ hr6]; rfl); have k2 := frozen_of_row w6 w5.heap.size 0 _ _ hr6; have k3 := frozen_of_row w6 w5.heap.size 1 _ _ hr6; have HS6 := Lib.hid ((HS5.out.below (bl_alloc (Below.refl _ _) (.cells #[.int .i64 0, .string ⟨#[]⟩] 36))).below hb); have HS7 := Lib.hid (((HS5.out.below (bl_alloc (Below.refl _ _) (.cells #[.int .i64 0, .string ⟨#[]⟩] 36))).below hb).upto (two_set w6 w5.heap.size (.int .i64 st) (.string b)) (by omega)); have HFX := Lib.hid (((HF5.out.below (bl_alloc (Below.refl _ _) (.cells #[.int .i64 0, .string ⟨#[]⟩] 36))).below hb).upto (two_set w6 w5.heap.size (.int .i64 st) (.string b)) (by omega)); have HGX := Lib.hid (box_two (st := st) (b := b) hr6); have HBX := Lib.hid (((bl_alloc HB5.out (.cells #[.int .i64 0, .string ⟨#[]⟩] 36)).trans (hb.mono (bl_alloc HB5.out (.cells #[.int .i64 0, .string ⟨#[]⟩] 36)).size)).trans ((two_set w6 w5.heap.size (.int .i64 st) (.string b)).mono (by omega))); clear hr6; clear hb)
          | (go_at_call 16; (with_reducible refine (M2.out _ _ _ _ HRL.out.symm (strs_own2 HO5.out (by rw [strsV_append]) HRL.out.symm HZR.out)).mono ?_); rintro r w6 ⟨rfl, hb⟩; have HS6 := Lib.hid (HS5.out.below hb); have HS7 := Lib.hid ((HS5.out.below hb).below (bl_alloc (Below.refl _ _) (.cells #[.int .i64 st, .string b] 36))); have HFX := Lib.hid ((HF5.out.below hb).below (bl_alloc (Below.refl _ _) (.cells #[.int .i64 st, .string b] 36))); have HGX := Lib.hid (boxF_new w6 st b 36); have HBX := Lib.hid (bl_alloc (HB5.out.trans (hb.mono HB5.out.size)) (.cells #[.int .i64 st, .string b] 36)); clear hb))
      all_goals
        first
          | (obtain ⟨xx, hxx⟩ : ∃ xx : World, w6.alloc (.cells #[.int .i64 st, .string b] 36) = xx := ⟨_, rfl⟩; rw [hxx] at HS7 HFX HGX HBX ⊢; clear hxx)
          | (obtain ⟨xx, hxx⟩ : ∃ xx : World, ((w6.setCell ⟨w5.heap.size, 0, none⟩ (.int .i64 st)).setCell ⟨w5.heap.size, 1, none⟩ (.string b)) = xx := ⟨_, rfl⟩; rw [hxx] at HS7 HFX HGX HBX ⊢; clear hxx)
          | (obtain ⟨xx, hxx⟩ : ∃ xx : World, ((w6.setCell ⟨x4.heap.size, 0, none⟩ (.int .i64 st)).setCell ⟨x4.heap.size, 1, none⟩ (.string b)) = xx := ⟨_, rfl⟩; rw [hxx] at HS7 HFX HGX HBX ⊢; clear hxx)
        have HTX := Lib.hid (HT.out.below HBX.out (Nat.le_refl _))
        have d0 : ((st : Int) == 0) = false := by rcases HST.out with h | h <;> simp [h]
        obtain ⟨f0, f1⟩ := HFX.out
        obtain ⟨g0, g1⟩ := HGX.out
        obtain ⟨s0, s1, s2, s3⟩ := HS7.out
        try clear k0 k1 k2 k3
        have hbsz : b.size ≤ 4100 := HBZ.out
        have hdd : ((st : Int) == 2) = false ∨ (((st : Int) == 2) = true ∧ decide ((600 : Int) < M) = false) := by
          rcases HST.out with h | h
          · exact .inl (by simp [h])
          · exact .inr ⟨by simp [h], by have := HLG.out h; simp; omega⟩
        rcases hdd with d2 | ⟨d2, dM⟩
        all_goals
          by_cases hss : st2 = st
          · have e1 : ((st2 : Int) != (st : Int)) = false := by simp [hss]
            by_cases hsb : b2.size = b.size
            · have e2 : ((b2.size : Int) != (b.size : Int)) = false := by simp [hsb]
              have HSB := Lib.hid (HSUB.out hss hsb)
              have hb2z : b2.size ≤ 4100 := by omega
              have HEQ := Lib.hid hsb
              clear hss hsb
              go_wp2_with (first
                | (go_at_call 18; (with_reducible refine (HMAY.out _).mono ?_); rintro r w8 ⟨rfl, hb⟩; have HT8 := Lib.hid (HTX.out.below hb (Nat.le_refl _)); have HB8 := Lib.hid (HBX.out.trans (hb.mono HBX.out.size)); have HF8 := Lib.hid (HFX.out.below hb); obtain ⟨f0, f1⟩ := HFX.out.below hb; obtain ⟨s0, s1, s2, s3⟩ := HS7.out.below hb; clear hb)
                | (go_at_call 16; (with_reducible refine (M3.out _ _ _ _ HTL.out.symm HT8.out).mono ?_); rintro r w9 ⟨rfl, hb⟩; have hx := bl_trans hb (bl_alloc (Below.refl _ w9) (.cells #[.int .i64 st2, .string b2] 36)); have HB9 := Lib.hid (HB8.out.trans (hx.mono HB8.out.size)); have HF9 := Lib.hid (HF8.out.below hx); have HG9 := Lib.hid (boxF_new w9 st2 b2 36); obtain ⟨f0, f1⟩ := HF8.out.below hx; obtain ⟨g0, g1⟩ := boxF_new w9 st2 b2 36; clear hb hx))
              generalize w9.alloc (.cells #[.int .i64 st2, .string b2] 36) = x9 at *
              go_loopw [128] (fun i wr => ∃ q : Nat, q ≤ b.size ∧ i = .int .i64 q ∧ Below x9.heap.size x9 wr) (fun i _ => b.size - (intOf i).toNat)
              case atStart => exact ⟨0, Nat.zero_le _, rfl, Below.refl _ _⟩
              case round =>
                obtain ⟨q, hq, rfl, hbq⟩ := hrel
                have HBQ := Lib.hid hbq
                clear hbq
                by_cases hlt : q < b.size
                · have hd : decide ((q : Int) < (b.size : Int)) = true := by simp; omega
                  obtain ⟨f0, f1⟩ := HF9.out.below HBQ.out
                  obtain ⟨g0, g1⟩ := HG9.out.below HBQ.out
                  have hq2 : q < b2.size := by have := HEQ.out; omega
                  have hz := HSB.out q hq2 hlt
                  have hqi : (q : Int) < b.size := by omega
                  have hqi2 : (q : Int) < b2.size := by omega
                  go_wp2
                  go_region
                  all_goals
                    go_wp2
                    go_roundw
                    case rel => exact ⟨q + 1, by omega, by go_num, HBQ.out.drew⟩
                    case measure => simp [intOf]; omega
                · have hd : decide ((q : Int) < (b.size : Int)) = false := by simp; omega
                  go_wp2
                  go_ret
                  exact ⟨rfl, HB9.out.trans (HBQ.out.mono HB9.out.size)⟩
            · have e2 : ((b2.size : Int) != (b.size : Int)) = true := by simp; omega
              clear hss hsb
              go_wp2_with (first
                | (go_at_call 18; (with_reducible refine (HMAY.out _).mono ?_); rintro r w8 ⟨rfl, hb⟩; have HT8 := Lib.hid (HTX.out.below hb (Nat.le_refl _)); have HB8 := Lib.hid (HBX.out.trans (hb.mono HBX.out.size)); have HF8 := Lib.hid (HFX.out.below hb); obtain ⟨f0, f1⟩ := HFX.out.below hb; obtain ⟨s0, s1, s2, s3⟩ := HS7.out.below hb; clear hb)
                | (go_at_call 16; (with_reducible refine (M3.out _ _ _ _ HTL.out.symm HT8.out).mono ?_); rintro r w9 ⟨rfl, hb⟩; have hx := bl_trans hb (bl_alloc (Below.refl _ w9) (.cells #[.int .i64 st2, .string b2] 36)); have HB9 := Lib.hid (HB8.out.trans (hx.mono HB8.out.size)); obtain ⟨f0, f1⟩ := HF8.out.below hx; obtain ⟨g0, g1⟩ := boxF_new w9 st2 b2 36; clear hb hx))
              go_ret
              exact ⟨rfl, HB9.out⟩
          · have e1 : ((st2 : Int) != (st : Int)) = true := by simp; omega
            clear hss
            go_wp2_with (first
              | (go_at_call 18; (with_reducible refine (HMAY.out _).mono ?_); rintro r w8 ⟨rfl, hb⟩; have HT8 := Lib.hid (HTX.out.below hb (Nat.le_refl _)); have HB8 := Lib.hid (HBX.out.trans (hb.mono HBX.out.size)); have HF8 := Lib.hid (HFX.out.below hb); obtain ⟨f0, f1⟩ := HFX.out.below hb; obtain ⟨s0, s1, s2, s3⟩ := HS7.out.below hb; clear hb)
              | (go_at_call 16; (with_reducible refine (M3.out _ _ _ _ HTL.out.symm HT8.out).mono ?_); rintro r w9 ⟨rfl, hb⟩; have hx := bl_trans hb (bl_alloc (Below.refl _ w9) (.cells #[.int .i64 st2, .string b2] 36)); have HB9 := Lib.hid (HB8.out.trans (hx.mono HB8.out.size)); obtain ⟨f0, f1⟩ := HF8.out.below hx; obtain ⟨g0, g1⟩ := boxF_new w9 st2 b2 36; clear hb hx))
            go_ret
            exact ⟨rfl, HB9.out⟩

theorem bloomTells_any (H P M : Int) (S : Nat) (hS : S < 4294967296) (a : Option Addr) (cap : Nat) (ss : List ByteArray) (p : ByteArray) (hp : p.size ≤ maxLen) (hl : ss.length ≤ cap) (hcm : cap ≤ maxLen) (hnone : a = none → cap = 0) (w : World) (hs : StrsAt w a ss) :
    Calls Try.prog 6 #[.agg #[.int .i64 H, .int .i64 P, .int .i64 M, .int .u32 S], .slice a ss.length cap, .string p] w fun e w' => e = .returned (.bool true) ∧ Below w.heap.size w w' := by
  by_cases hc : chkR H P M = 0
  · by_cases h : ss.length ≤ 600
    · exact bloomTells_short H P M S hc hS a cap ss p hp hl hcm hnone w hs h
    · exact bloomTells_long H P M S hc hS a cap ss p hp hl hcm hnone w hs h
  · exact bloomTells_bad H P M S hc a _ cap p w
end Go.Proofs.Ytplegohebfajlaa
