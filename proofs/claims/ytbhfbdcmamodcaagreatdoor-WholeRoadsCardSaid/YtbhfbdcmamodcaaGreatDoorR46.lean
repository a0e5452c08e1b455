/- The whole: Update, where a layer is added; The whole: a link's graph file stands; The whole: what stands while the index is read from its disk. -/
import Derived.Test.YtbhfbdcmamodcaaGreatDoorR38
import Derived.Test.YtbhfbdcmamodcaaGreatDoorR45
import Derived.Deep.RegionHeld3
set_option linter.unusedVariables false
set_option linter.unusedSimpArgs false
namespace Go.Proofs.YtbhfbdcmamodcaaGreatDoor
open Go.RowKit Go.Maps TrMath FrMath PackMath SumMath
set_option maxHeartbeats 4000000 in
set_option maxRecDepth 100000 in
theorem xUpdate {w : World} {s x p q : Nat} {S : StoreS} {I : IndexS} {R F : Foot} {v : View} (h : StoreAt w s S) (ts : List Ents) (cs : List ComP) (hts : S.trees.map Prod.snd = ts) (hcs : S.commits.map Prod.snd = cs) (hg : GoodS ts cs) (hI : IdxOk w x p I R F v q) (Q : SetP) (hQ : chkR Q.H Q.P Q.M = 0) (hQs : Q.S < 4294967296)
    (k0 : Nat) (hk0 : totalL I.links = k0) (ht : k0 < cs.length) (hgen : genAll I.graphs = gensN cs k0) (hl7 : I.links.length < 8) (hg8 : I.graphs.length ≤ 8) (hgood : GoodGraph (allG Q ts cs k0)) (htext : (graphB (allG Q ts cs k0)).length ≤ 524288) (n : Nat) (hn : nextN I.links = n) (hn1 : n < 100) (hgc : GoodChain (I.links ++ [linkOf n (allG Q ts cs k0)])) :
    Calls Tryz.prog 12 #[.pointer (some ⟨x, 0, none⟩), srcV s, .agg #[.int .i64 (Q.H : Nat), .int .i64 (Q.P : Nat), .int .i64 (Q.M : Nat), .int .u32 (Q.S : Nat)]] w fun e w' => e = .returned (.int .i64 0) ∧
      UpTo w w' x p F R ((layV v n (allG Q ts cs k0) (I.links ++ [linkOf n (allG Q ts cs k0)])).filter fun y => keepN (I.links ++ [linkOf n (allG Q ts cs k0)]) y.1) (I.links ++ [linkOf n (allG Q ts cs k0)]) (I.graphs.map GrE.g ++ [allG Q ts cs k0]) := by
  obtain ⟨W1, hW1⟩ : ∃ W1, w.alloc (.cells #[.int .i64 (Q.H : Nat), .int .i64 (Q.P : Nat), .int .i64 (Q.M : Nat), .int .u32 (Q.S : Nat)] 49) = W1 := ⟨_, rfl⟩
  have hb1 : Below w.heap.size w W1 := by rw [← hW1]; exact bl_alloc (Below.refl _ w) _
  have hs1 : W1.heap[w.heap.size]? = some (.cells #[.int .i64 (Q.H : Nat), .int .i64 (Q.P : Nat), .int .i64 (Q.M : Nat), .int .u32 (Q.S : Nat)] 49 (0, 0)) := by rw [← hW1]; exact heap_alloc_new _ _
  have hlen : S.commits.length = cs.length := by rw [← hcs, List.length_map]
  have hN := hg.few
  have hI1 := hI.below hb1
  have hF1 := hI.disk.lt
  have hx1 := hI.xlt
  obtain ⟨la, lc, hlv, hLc, _, _, _, _⟩ := hI1.idx.lv.sl
  obtain ⟨ga, gc, hgv, hGc, hgo⟩ := hI1.idx.gv.sl
  have hgaF : ∀ b off, ga = some ⟨b, off, none⟩ → ¬ F b ∧ b < W1.heap.size ∧ b ≠ x := fun b off e => by
    have ho : I.gv.ownBlock = some b := by rw [hgv, e]; rfl
    refine ⟨fun hF => hI.apart b hF (.inl (xown_gv ho)), (hI1.idx.gv.lt b ho).2, fun e2 => ?_⟩
    subst e2
    have := hI.idx.apart
    unfold IndexS.own at this
    rw [List.nodup_cons] at this
    exact this.1 (List.mem_append.2 (.inr (by rw [ho]; simp)))
  have hgenl : (genAll I.graphs).length = k0 := by rw [hgen, gensN_len]
  have HCl := Lib.hid (fun W (hW : Below W1.heap.size W1 W) => xReady ((h.below hb1).below hW) (hI1.idx.below hW) Q hQ (by have := hI.l8; omega) (by omega) (by omega))
  have HCs := Lib.hid (show ∀ W, Below W1.heap.size W1 W → Calls Tryz.prog 15 #[.pointer (some ⟨s, 0, none⟩)] W fun e w' => e = .returned (.int .i64 (cs.length : Nat)) ∧ w' = W from fun W hW => by
    have := sCommits ((h.below hb1).below hW)
    rwa [hlen] at this)
  have HLn := Lib.hid (show ∀ W, Below W1.heap.size W1 W → Calls Tryz.prog 16 #[.pointer (some ⟨x, 0, none⟩)] W fun e w' => e = .returned (.int .i64 (k0 : Nat)) ∧ Below W.heap.size W w' from fun W hW => by
    have := xLen (hI1.idx.below hW) (by have := hI.l8; omega) (by omega)
    rwa [hk0] at this)
  have HGn := Lib.hid (show ∀ W, Below W1.heap.size W1 W → Calls Tryz.prog 43 #[.pointer (some ⟨x, 0, none⟩)] W fun e w' => ∃ ka kc, e = .returned (.slice ka k0 kc) ∧ CellsAt w' ka ((gensN cs k0).flatMap natV) ∧ Below W.heap.size W w' from fun W hW => by
    refine (xGens (hI1.idx.below hW) (by omega) (by omega)).mono fun e w' ⟨v2, h1, h2, h3⟩ => ?_
    obtain ⟨ka, kc, e1, e2, _, _, _, _⟩ := h2.sl
    rw [hgenl] at e1
    rw [hgen] at e2
    subst e1
    exact ⟨ka, kc, h1, e2, h3⟩)
  have HRw := Lib.hid (show ∀ W ka kc, Below W1.heap.size W1 W → CellsAt W ka ((gensN cs k0).flatMap natV) → Calls Tryz.prog 42 #[srcV s, .agg #[.int .i64 (Q.H : Nat), .int .i64 (Q.P : Nat), .int .i64 (Q.M : Nat), .int .u32 (Q.S : Nat)], .slice ka k0 kc] W fun e w' => ∃ a c Rn, e = .returned (.slice a (allG Q ts cs k0).rows.length c) ∧ RowsK w' Rn (.slice a (allG Q ts cs k0).rows.length c) (allG Q ts cs k0).rows ∧ (∀ k, Rn k → W1.heap.size ≤ k) ∧ Below W.heap.size W w' from fun W ka kc hW hK => by
    refine (xRows ((h.below hb1).below hW) ts cs hts hcs hg Q hQs k0 (by omega) ka kc hK).mono fun e w' ⟨va, Rn, h1, h2, h3, h4⟩ => ?_
    obtain ⟨a, c, e1, _, _, _⟩ := h2.at
    subst e1
    exact ⟨a, c, Rn, h1, h2, fun k hk => Nat.le_trans hW.size (h3 k hk), h4⟩)
  have HLy := Lib.hid (show ∀ W a c Rn, Below W1.heap.size W1 W → RowsK W Rn (.slice a (allG Q ts cs k0).rows.length c) (allG Q ts cs k0).rows → (∀ k, Rn k → W1.heap.size ≤ k) →
      Calls Tryz.prog 41 #[.pointer (some ⟨x, 0, none⟩), .slice la I.links.length lc, .slice ga I.graphs.length gc, .agg #[.int .i64 (k0 : Nat), .int .i64 (Q.H : Nat), .int .i64 (Q.P : Nat), .int .i64 (Q.M : Nat), .int .u32 (Q.S : Nat), .slice a (allG Q ts cs k0).rows.length c]] W fun e w' => e = .returned (.int .i64 0) ∧
      UpTo w w' x p F R ((layV v n (allG Q ts cs k0) (I.links ++ [linkOf n (allG Q ts cs k0)])).filter fun y => keepN (I.links ++ [linkOf n (allG Q ts cs k0)]) y.1) (I.links ++ [linkOf n (allG Q ts cs k0)]) (I.graphs.map GrE.g ++ [allG Q ts cs k0]) ∧ w'.heap[w.heap.size]? = W1.heap[w.heap.size]? from fun W a c Rn hW hK hRn =>
    (xLayRows hI1 hW la lc I.links hLc ga gc I.graphs hGc hg8 hgaF hI1.idx.rows a c (allG Q ts cs k0) hK hRn hgood htext n hn hn1 (by omega) hgc).mono fun e w' ⟨h1, h2⟩ => ⟨h1, h2.after hb1, h2.upd.block _ (by rw [← hW1]; simp) fun e2 => by
      rcases e2 with e2 | e2
      · have := hF1 _ e2; omega
      · omega⟩)
  have hd : ((cs.length : Int) == (k0 : Int)) = false := by rw [beq_eq_false_iff_ne]; omega
  have hd8 : decide ((8 : Int) ≤ (I.links.length : Int)) = false := by rw [decide_eq_false_iff_not]; omega
  have K0 := Lib.hid (show ∀ W : World, W.heap[w.heap.size]? = W1.heap[w.heap.size]? → W.cell? ⟨w.heap.size, 0, none⟩ = some (.int .i64 (Q.H : Nat)) ∧ W.cell? ⟨w.heap.size, 1, none⟩ = some (.int .i64 (Q.P : Nat)) ∧ W.cell? ⟨w.heap.size, 2, none⟩ = some (.int .i64 (Q.M : Nat)) ∧ W.cell? ⟨w.heap.size, 3, none⟩ = some (.int .u32 (Q.S : Nat)) from fun W hW => by
    rw [hs1] at hW
    exact ⟨by rw [cell_of_row _ _ _ _ _ _ hW]; rfl, by rw [cell_of_row _ _ _ _ _ _ hW]; rfl, by rw [cell_of_row _ _ _ _ _ _ hW]; rfl, by rw [cell_of_row _ _ _ _ _ _ hW]; rfl⟩)
  have hz1 : w.heap.size < W1.heap.size := by rw [← hW1]; simp
  have KB := Lib.hid (show ∀ W : World, Below W1.heap.size W1 W → W.cell? ⟨w.heap.size, 0, none⟩ = some (.int .i64 (Q.H : Nat)) ∧ W.cell? ⟨w.heap.size, 1, none⟩ = some (.int .i64 (Q.P : Nat)) ∧ W.cell? ⟨w.heap.size, 2, none⟩ = some (.int .i64 (Q.M : Nat)) ∧ W.cell? ⟨w.heap.size, 3, none⟩ = some (.int .u32 (Q.S : Nat)) from fun W hW => K0.out W (hW.block _ hz1))
  have HX := Lib.hid (show ∀ W, Below W1.heap.size W1 W → W.cell? ⟨x, 1, none⟩ = some (.slice la I.links.length lc) ∧ W.cell? ⟨x, 2, none⟩ = some (.slice ga I.graphs.length gc) from fun W hW =>
    ⟨bl_cell hW (by rw [cell_of_row _ _ _ _ _ _ hI1.idx.box, ← hlv]; rfl), bl_cell hW (by rw [cell_of_row _ _ _ _ _ _ hI1.idx.box, ← hgv]; rfl)⟩)
  have hm1 := mCommits
  have HW1 := Lib.hid hW1; have HB1 := Lib.hid (Below.refl W1.heap.size W1)
  obtain ⟨k0c, k1c, k2c, k3c⟩ := KB.out W1 HB1.out
  have HNN := Lib.hid hN
  clear h hts hcs hg hI hI1 hQ hQs ht hgood htext hn hgc hW1 hb1 hs1 hlen hN hgen hgenl hgaF hgo hGc hLc hlv hgv hk0 hF1 hx1 hz1
  generalize (allG Q ts cs k0) = g at *
  unfold srcV at HCl HRw ⊢
  go_enter Tryz.func12, Tryz.ntmps12
  go_wp2_with fail
  rw [HW1.out]
  go_wp2_with fail
  (with_reducible refine (HCl.out _ HB1.out).mono ?_)
  rintro e w2 ⟨rfl, hb⟩
  have HB2 := Lib.hid hb
  clear hb
  go_wp2_with fail
  (with_reducible refine (HCs.out _ HB2.out).mono ?_)
  rintro e w3 ⟨rfl, rfl⟩
  go_wp2_with fail
  (with_reducible refine (HLn.out _ HB2.out).mono ?_)
  rintro e w4 ⟨rfl, hb⟩
  have HB4 := Lib.hid (bl_trans HB2.out hb)
  clear hb k0c k1c k2c k3c
  obtain ⟨x1, x2⟩ := HX.out w4 HB4.out
  go_wp2_with fail
  have HBD := Lib.hid (bl_drew HB4.out)
  refine wp_region_L (z := 18) (y := 18) (S3 := fun _ => True) (S1 := fun w' => w'.cell? ⟨w.heap.size, 0, none⟩ = some (.int .i64 (Q.H : Nat)) ∧ w'.cell? ⟨w.heap.size, 1, none⟩ = some (.int .i64 (Q.P : Nat)) ∧ w'.cell? ⟨w.heap.size, 2, none⟩ = some (.int .i64 (Q.M : Nat)) ∧ w'.cell? ⟨w.heap.size, 3, none⟩ = some (.int .u32 (Q.S : Nat)))
    (S2 := fun w' => w'.cell? ⟨x, 1, none⟩ = some (.slice la I.links.length lc) ∧ w'.cell? ⟨x, 2, none⟩ = some (.slice ga I.graphs.length gc)) (by kernel_rfl) ?_
  refine wpAnyL_take (T := fun w' => w'.cell? ⟨w.heap.size, 0, none⟩ = some (.int .i64 (Q.H : Nat)) ∧ w'.cell? ⟨w.heap.size, 1, none⟩ = some (.int .i64 (Q.P : Nat)) ∧ w'.cell? ⟨w.heap.size, 2, none⟩ = some (.int .i64 (Q.M : Nat)) ∧ w'.cell? ⟨w.heap.size, 3, none⟩ = some (.int .u32 (Q.S : Nat))) (i := 0) (v := ?_) rfl (by decide) (by decide) (by kernel_rfl) (by kernel_rfl) (by kernel_rfl) (fun _ _ _ h => h) (.inl fun _ h => h) (Or.inl ⟨by rfl, ?hy0⟩) ⟨KB.out _ HBD.out, fun _ => HX.out _ HBD.out, fun _ => trivial⟩ ?hr0
  case hy0 => (intro w' hSw; (try dsimp only at hSw); go_simp <;> (with_reducible rfl))
  (try simp only [Act.put, List.setIfInBounds_toArray, List.set_cons_zero, List.set_cons_succ])
  refine wpAnyL_take (T := fun w' => w'.cell? ⟨w.heap.size, 0, none⟩ = some (.int .i64 (Q.H : Nat)) ∧ w'.cell? ⟨w.heap.size, 1, none⟩ = some (.int .i64 (Q.P : Nat)) ∧ w'.cell? ⟨w.heap.size, 2, none⟩ = some (.int .i64 (Q.M : Nat)) ∧ w'.cell? ⟨w.heap.size, 3, none⟩ = some (.int .u32 (Q.S : Nat))) (i := 1) (v := ?_) rfl (by decide) (by decide) (by kernel_rfl) (by kernel_rfl) (by kernel_rfl) (fun _ _ _ h => h) (.inl fun _ h => h) (Or.inl ⟨by rfl, ?hy1⟩) ⟨KB.out _ HBD.out, fun _ => HX.out _ HBD.out, fun _ => trivial⟩ ?hr1
  case hy1 => (intro w' hSw; (try dsimp only at hSw); go_simp <;> (with_reducible rfl))
  (try simp only [Act.put, List.setIfInBounds_toArray, List.set_cons_zero, List.set_cons_succ])
  refine wpAnyL_take (T := fun w' => w'.cell? ⟨w.heap.size, 0, none⟩ = some (.int .i64 (Q.H : Nat)) ∧ w'.cell? ⟨w.heap.size, 1, none⟩ = some (.int .i64 (Q.P : Nat)) ∧ w'.cell? ⟨w.heap.size, 2, none⟩ = some (.int .i64 (Q.M : Nat)) ∧ w'.cell? ⟨w.heap.size, 3, none⟩ = some (.int .u32 (Q.S : Nat))) (i := 2) (v := ?_) rfl (by decide) (by decide) (by kernel_rfl) (by kernel_rfl) (by kernel_rfl) (fun _ _ _ h => h) (.inl fun _ h => h) (Or.inl ⟨by rfl, ?hy2⟩) ⟨KB.out _ HBD.out, fun _ => HX.out _ HBD.out, fun _ => trivial⟩ ?hr2
  case hy2 => (intro w' hSw; (try dsimp only at hSw); go_simp <;> (with_reducible rfl))
  (try simp only [Act.put, List.setIfInBounds_toArray, List.set_cons_zero, List.set_cons_succ])
  refine wpAnyL_take (T := fun w' => w'.cell? ⟨w.heap.size, 0, none⟩ = some (.int .i64 (Q.H : Nat)) ∧ w'.cell? ⟨w.heap.size, 1, none⟩ = some (.int .i64 (Q.P : Nat)) ∧ w'.cell? ⟨w.heap.size, 2, none⟩ = some (.int .i64 (Q.M : Nat)) ∧ w'.cell? ⟨w.heap.size, 3, none⟩ = some (.int .u32 (Q.S : Nat))) (i := 3) (v := ?_) rfl (by decide) (by decide) (by kernel_rfl) (by kernel_rfl) (by kernel_rfl) (fun _ _ _ h => h) (.inl fun _ h => h) (Or.inl ⟨by rfl, ?hy3⟩) ⟨KB.out _ HBD.out, fun _ => HX.out _ HBD.out, fun _ => trivial⟩ ?hr3
  case hy3 => (intro w' hSw; (try dsimp only at hSw); go_simp <;> (with_reducible rfl))
  (try simp only [Act.put, List.setIfInBounds_toArray, List.set_cons_zero, List.set_cons_succ])
  refine wpAnyL_take (T := fun w' => w'.cell? ⟨x, 1, none⟩ = some (.slice la I.links.length lc) ∧ w'.cell? ⟨x, 2, none⟩ = some (.slice ga I.graphs.length gc)) (i := 4) (v := ?_) rfl (by decide) (by decide) (by kernel_rfl) (by kernel_rfl) (by kernel_rfl) (fun _ _ _ h => h) (.inr (.inl ⟨.of (by kernel_rfl), fun _ _ h => h⟩)) (Or.inl ⟨by rfl, ?hy4⟩) ⟨KB.out _ HBD.out, fun _ => HX.out _ HBD.out, fun _ => trivial⟩ ?hr4
  case hy4 => (intro w' hSw; (try dsimp only at hSw); go_simp <;> (with_reducible rfl))
  (try simp only [Act.put, List.setIfInBounds_toArray, List.set_cons_zero, List.set_cons_succ])
  refine wpAnyL_take (T := fun w' => w'.cell? ⟨w.heap.size, 0, none⟩ = some (.int .i64 (Q.H : Nat)) ∧ w'.cell? ⟨w.heap.size, 1, none⟩ = some (.int .i64 (Q.P : Nat)) ∧ w'.cell? ⟨w.heap.size, 2, none⟩ = some (.int .i64 (Q.M : Nat)) ∧ w'.cell? ⟨w.heap.size, 3, none⟩ = some (.int .u32 (Q.S : Nat))) (i := 5) (v := ?_) rfl (by decide) (by decide) (by kernel_rfl) (by kernel_rfl) (by kernel_rfl) (fun _ _ _ h => h) (.inl fun _ h => h) (Or.inl ⟨by rfl, ?hy5⟩) ⟨KB.out _ HBD.out, fun _ => HX.out _ HBD.out, fun _ => trivial⟩ ?hr5
  case hy5 => (intro w' hSw; (try dsimp only at hSw); go_simp <;> (with_reducible rfl))
  (try simp only [Act.put, List.setIfInBounds_toArray, List.set_cons_zero, List.set_cons_succ])
  refine wpAnyL_take (T := fun w' => w'.cell? ⟨w.heap.size, 0, none⟩ = some (.int .i64 (Q.H : Nat)) ∧ w'.cell? ⟨w.heap.size, 1, none⟩ = some (.int .i64 (Q.P : Nat)) ∧ w'.cell? ⟨w.heap.size, 2, none⟩ = some (.int .i64 (Q.M : Nat)) ∧ w'.cell? ⟨w.heap.size, 3, none⟩ = some (.int .u32 (Q.S : Nat))) (i := 6) (v := ?_) rfl (by decide) (by decide) (by kernel_rfl) (by kernel_rfl) (by kernel_rfl) (fun _ _ _ h => h) (.inl fun _ h => h) (Or.inl ⟨by rfl, ?hy6⟩) ⟨KB.out _ HBD.out, fun _ => HX.out _ HBD.out, fun _ => trivial⟩ ?hr6
  case hy6 => (intro w' hSw; (try dsimp only at hSw); go_simp <;> (with_reducible rfl))
  (try simp only [Act.put, List.setIfInBounds_toArray, List.set_cons_zero, List.set_cons_succ])
  refine wpAnyL_take (T := fun w' => w'.cell? ⟨w.heap.size, 0, none⟩ = some (.int .i64 (Q.H : Nat)) ∧ w'.cell? ⟨w.heap.size, 1, none⟩ = some (.int .i64 (Q.P : Nat)) ∧ w'.cell? ⟨w.heap.size, 2, none⟩ = some (.int .i64 (Q.M : Nat)) ∧ w'.cell? ⟨w.heap.size, 3, none⟩ = some (.int .u32 (Q.S : Nat))) (i := 7) (v := ?_) rfl (by decide) (by decide) (by kernel_rfl) (by kernel_rfl) (by kernel_rfl) (fun _ _ _ h => h) (.inl fun _ h => h) (Or.inl ⟨by rfl, ?hy7⟩) ⟨KB.out _ HBD.out, fun _ => HX.out _ HBD.out, fun _ => trivial⟩ ?hr7
  case hy7 => (intro w' hSw; (try dsimp only at hSw); go_simp <;> (with_reducible rfl))
  (try simp only [Act.put, List.setIfInBounds_toArray, List.set_cons_zero, List.set_cons_succ])
  refine wpAnyL_take (T := fun w' => w'.cell? ⟨x, 1, none⟩ = some (.slice la I.links.length lc) ∧ w'.cell? ⟨x, 2, none⟩ = some (.slice ga I.graphs.length gc)) (i := 8) (v := ?_) rfl (by decide) (by decide) (by kernel_rfl) (by kernel_rfl) (by kernel_rfl) (fun _ _ _ h => h) (.inr (.inl ⟨.of (by kernel_rfl), fun _ _ h => h⟩)) (Or.inl ⟨by rfl, ?hy8⟩) ⟨KB.out _ HBD.out, fun _ => HX.out _ HBD.out, fun _ => trivial⟩ ?hr8
  case hy8 => (intro w' hSw; (try dsimp only at hSw); go_simp <;> (with_reducible rfl))
  (try simp only [Act.put, List.setIfInBounds_toArray, List.set_cons_zero, List.set_cons_succ])
  refine wpAnyL_take (T := fun w' => w'.cell? ⟨w.heap.size, 0, none⟩ = some (.int .i64 (Q.H : Nat)) ∧ w'.cell? ⟨w.heap.size, 1, none⟩ = some (.int .i64 (Q.P : Nat)) ∧ w'.cell? ⟨w.heap.size, 2, none⟩ = some (.int .i64 (Q.M : Nat)) ∧ w'.cell? ⟨w.heap.size, 3, none⟩ = some (.int .u32 (Q.S : Nat))) (i := 9) (v := ?_) rfl (by decide) (by decide) (by kernel_rfl) (by kernel_rfl) (by kernel_rfl) (fun _ _ _ h => h) (.inl fun _ h => h) (Or.inl ⟨by rfl, ?hy9⟩) ⟨KB.out _ HBD.out, fun _ => HX.out _ HBD.out, fun _ => trivial⟩ ?hr9
  case hy9 => (intro w' hSw; (try dsimp only at hSw); go_simp <;> (with_reducible rfl))
  (try simp only [Act.put, List.setIfInBounds_toArray, List.set_cons_zero, List.set_cons_succ])
  refine wpAnyL_take (T := fun w' => w'.cell? ⟨w.heap.size, 0, none⟩ = some (.int .i64 (Q.H : Nat)) ∧ w'.cell? ⟨w.heap.size, 1, none⟩ = some (.int .i64 (Q.P : Nat)) ∧ w'.cell? ⟨w.heap.size, 2, none⟩ = some (.int .i64 (Q.M : Nat)) ∧ w'.cell? ⟨w.heap.size, 3, none⟩ = some (.int .u32 (Q.S : Nat))) (i := 11) (v := ?_) rfl (by decide) (by decide) (by kernel_rfl) (by kernel_rfl) (by kernel_rfl) (fun _ _ _ h => h) (.inl fun _ h => h) (Or.inl ⟨by rfl, ?hy11⟩) ⟨KB.out _ HBD.out, fun _ => HX.out _ HBD.out, fun _ => trivial⟩ ?hr11
  case hy11 => (intro w' hSw; (try dsimp only at hSw); go_simp <;> (with_reducible rfl))
  (try simp only [Act.put, List.setIfInBounds_toArray, List.set_cons_zero, List.set_cons_succ])
  refine wpAnyL_take (T := fun w' => w'.cell? ⟨w.heap.size, 0, none⟩ = some (.int .i64 (Q.H : Nat)) ∧ w'.cell? ⟨w.heap.size, 1, none⟩ = some (.int .i64 (Q.P : Nat)) ∧ w'.cell? ⟨w.heap.size, 2, none⟩ = some (.int .i64 (Q.M : Nat)) ∧ w'.cell? ⟨w.heap.size, 3, none⟩ = some (.int .u32 (Q.S : Nat))) (i := 12) (v := ?_) rfl (by decide) (by decide) (by kernel_rfl) (by kernel_rfl) (by kernel_rfl) (fun _ _ _ h => h) (.inl fun _ h => h) (Or.inl ⟨by rfl, ?hy12⟩) ⟨KB.out _ HBD.out, fun _ => HX.out _ HBD.out, fun _ => trivial⟩ ?hr12
  case hy12 => (intro w' hSw; (try dsimp only at hSw); go_simp <;> (with_reducible rfl))
  (try simp only [Act.put, List.setIfInBounds_toArray, List.set_cons_zero, List.set_cons_succ])
  refine wpAnyL_take (T := fun w' => w'.cell? ⟨w.heap.size, 0, none⟩ = some (.int .i64 (Q.H : Nat)) ∧ w'.cell? ⟨w.heap.size, 1, none⟩ = some (.int .i64 (Q.P : Nat)) ∧ w'.cell? ⟨w.heap.size, 2, none⟩ = some (.int .i64 (Q.M : Nat)) ∧ w'.cell? ⟨w.heap.size, 3, none⟩ = some (.int .u32 (Q.S : Nat))) (i := 13) (v := ?_) rfl (by decide) (by decide) (by kernel_rfl) (by kernel_rfl) (by kernel_rfl) (fun _ _ _ h => h) (.inl fun _ h => h) (Or.inl ⟨by rfl, ?hy13⟩) ⟨KB.out _ HBD.out, fun _ => HX.out _ HBD.out, fun _ => trivial⟩ ?hr13
  case hy13 => (intro w' hSw; (try dsimp only at hSw); go_simp <;> (with_reducible rfl))
  (try simp only [Act.put, List.setIfInBounds_toArray, List.set_cons_zero, List.set_cons_succ])
  refine wpAnyL_take (T := fun w' => w'.cell? ⟨w.heap.size, 0, none⟩ = some (.int .i64 (Q.H : Nat)) ∧ w'.cell? ⟨w.heap.size, 1, none⟩ = some (.int .i64 (Q.P : Nat)) ∧ w'.cell? ⟨w.heap.size, 2, none⟩ = some (.int .i64 (Q.M : Nat)) ∧ w'.cell? ⟨w.heap.size, 3, none⟩ = some (.int .u32 (Q.S : Nat))) (i := 14) (v := ?_) rfl (by decide) (by decide) (by kernel_rfl) (by kernel_rfl) (by kernel_rfl) (fun _ _ _ h => h) (.inl fun _ h => h) (Or.inl ⟨by rfl, ?hy14⟩) ⟨KB.out _ HBD.out, fun _ => HX.out _ HBD.out, fun _ => trivial⟩ ?hr14
  case hy14 => (intro w' hSw; (try dsimp only at hSw); go_simp <;> (with_reducible rfl))
  (try simp only [Act.put, List.setIfInBounds_toArray, List.set_cons_zero, List.set_cons_succ])
  refine wpAnyL_one (i := 10) (by kernel_rfl) rfl (fun K hK => ?_)
  go_simp
  go_at_call 16
  (with_reducible refine (HLn.out _ HBD.out).mono ?_)
  rintro e w5 ⟨rfl, hb⟩
  have HB5 := Lib.hid (bl_trans HBD.out hb)
  clear hb
  refine hK.out _ _ ⟨KB.out _ HB5.out, fun _ => HX.out _ HB5.out, fun _ => trivial⟩ ?_
  clear hK K
  (try simp only [Act.put, List.setIfInBounds_toArray, List.set_cons_zero, List.set_cons_succ])
  refine wpAnyL_one (i := 15) (by kernel_rfl) rfl (fun K hK => ?_)
  go_simp
  go_at_call 43
  (with_reducible refine (HGn.out _ HB5.out).mono ?_)
  rintro e w6 ⟨ka, kc, rfl, hc, hb⟩
  have HKC := Lib.hid hc
  have HB6 := Lib.hid (bl_trans HB5.out hb)
  clear hc hb
  refine hK.out _ _ ⟨KB.out _ HB6.out, fun _ => HX.out _ HB6.out, fun _ => trivial⟩ ?_
  clear hK K
  (try simp only [Act.put, List.setIfInBounds_toArray, List.set_cons_zero, List.set_cons_succ])
  refine wpAnyL_one (i := 16) (by kernel_rfl) rfl (fun K hK => ?_)
  go_simp
  go_at_call 42
  (with_reducible refine (HRw.out _ _ _ HB6.out HKC.out).mono ?_)
  rintro e w7 ⟨a, c, Rn, rfl, hk, hr, hb⟩
  have HK := Lib.hid hk
  have HRN := Lib.hid hr
  have HB7 := Lib.hid (bl_trans HB6.out hb)
  clear hk hr hb
  refine hK.out _ _ ⟨KB.out _ HB7.out, fun _ => HX.out _ HB7.out, fun _ => trivial⟩ ?_
  clear hK K
  (try simp only [Act.put, List.setIfInBounds_toArray, List.set_cons_zero, List.set_cons_succ])
  refine wpAnyL_take (T := fun w' => w'.cell? ⟨w.heap.size, 0, none⟩ = some (.int .i64 (Q.H : Nat)) ∧ w'.cell? ⟨w.heap.size, 1, none⟩ = some (.int .i64 (Q.P : Nat)) ∧ w'.cell? ⟨w.heap.size, 2, none⟩ = some (.int .i64 (Q.M : Nat)) ∧ w'.cell? ⟨w.heap.size, 3, none⟩ = some (.int .u32 (Q.S : Nat))) (i := 17) (v := ?_) rfl (by decide) (by decide) (by kernel_rfl) (by kernel_rfl) (by kernel_rfl) (fun _ _ _ h => h) (.inl fun _ h => h) (Or.inl ⟨by rfl, ?hy17⟩) ⟨KB.out _ HB7.out, fun _ => HX.out _ HB7.out, fun _ => trivial⟩ ?hr17
  case hy17 => (intro w' hSw; (try dsimp only at hSw); go_simp <;> (with_reducible rfl))
  (try simp only [Act.put, List.setIfInBounds_toArray, List.set_cons_zero, List.set_cons_succ])
  refine wpAnyL_one (i := 18) (by kernel_rfl) rfl (fun K hK => ?_)
  go_simp
  go_at_call 41
  (with_reducible refine (HLy.out _ _ _ _ HB7.out HK.out HRN.out).mono ?_)
  rintro e w' ⟨rfl, hu, hk⟩
  have HF := Lib.hid hu
  have HLK := Lib.hid hk
  clear hu hk
  refine hK.out _ _ ⟨K0.out _ HLK.out, fun h => Bool.noConfusion h, fun _ => trivial⟩ ?_
  clear hK K
  (try simp only [Act.put, List.setIfInBounds_toArray, List.set_cons_zero, List.set_cons_succ])
  refine wpAnyL_one (i := 19) (by kernel_rfl) rfl (fun K hK => ?_)
  go_simp
  refine hK.out _ _ ⟨K0.out _ HLK.out, fun h => Bool.noConfusion h, fun _ => trivial⟩ ?_
  clear hK K
  (try dsimp only [Act.put])
  (try simp only [List.setIfInBounds_toArray, List.set_cons_zero, List.set_cons_succ])
  refine wpAnyL_done (by kernel_rfl) ?_ _
  go_wp2
  go_ret
  exact ⟨rfl, HF.out⟩
end Go.Proofs.YtbhfbdcmamodcaaGreatDoor
namespace Go.Proofs.YtbhfbdcmamodcaaGreatDoor
open Go.RowKit Go.Maps TrMath FrMath PackMath SumMath
theorem RowsOwn.keeps {w : World} {B T : Nat} {v : Value} {rows : List RowP} (h : RowsOwn w B T v rows) (hT : T ≤ w.heap.size) : ∃ a c, v = .slice a rows.length c ∧ Lasts (fun k => B ≤ k ∧ k < T) w (fun x => RowsAt x a rows) ∧ rows.length ≤ c ∧ c ≤ maxLen := by
  obtain ⟨a, c, h1, _, h3, h4⟩ := h.at
  refine ⟨a, c, h1, ⟨fun k hk => by omega, fun x hx => ?_⟩, h3, h4⟩
  obtain ⟨L, k1, k2, k3, k4⟩ := h
  have h2 : RowsOwn x B T v rows := by
    refine ⟨L, k1, k2.stays fun g e => hx.1 g ⟨(k2.lt g e).1, k3 g e⟩, k3, fun y hy => ?_⟩
    obtain ⟨a', c', m1, m2, m3, m4, m5, m6⟩ := k4 y hy
    refine ⟨a', c', m1, m2.stays (fun b off e _ => ?_) hx.2, m3, m4, m5, fun b off e => ?_⟩
    · obtain ⟨n1, n2, n3, _⟩ := m6 b off e
      exact hx.1 b ⟨n1, n2⟩
    · obtain ⟨n1, n2, n3, n4⟩ := m6 b off e
      exact ⟨n1, n2, Nat.lt_of_lt_of_le n3 hx.2, n4⟩
  obtain ⟨a', c', e1, e2, _⟩ := h2.at
  rw [h1] at e1
  cases e1
  exact e2
set_option maxHeartbeats 4000000 in
set_option maxRecDepth 100000 in
theorem xStands {w : World} {x p q : Nat} {I : IndexS} {R F : Foot} {v : View} (h : IndexAt w x I R) (hp : I.disk = p) (hD : Disk w p F v q) (n : Nat) (hn : n < 100) (g : GraphP) (hg : GoodGraph g) (hm : (nameG n, graphB g) ∈ v) (hbase : g.base = totalL I.links) (hl : I.links.length ≤ 1000) (ht : totalL I.links ≤ 1000000) (N : Nat) (hc : g.base + g.rows.length ≤ N) (hN : N ≤ 1000000) :
    Calls Tryz.prog 69 #[.pointer (some ⟨x, 0, none⟩), .agg #[.int .i64 (n : Nat), .int .i64 (g.rows.length : Nat), .int .u32 (crc (graphB g) : Nat)], .int .i64 (N : Nat)] w fun e w' => ∃ a c, e = .returned (.tuple #[.agg #[.int .i64 (g.base : Nat), .int .i64 (g.set.H : Nat), .int .i64 (g.set.P : Nat), .int .i64 (g.set.M : Nat), .int .u32 (g.set.S : Nat), .slice a g.rows.length c], .bool true]) ∧
      GrOk (fun k => w.heap.size ≤ k ∧ k < w'.heap.size) w' ⟨a, g.rows.length, c, g⟩ ∧ Below w.heap.size w w' := by
  obtain ⟨W1, hW1⟩ : ∃ W1, (w.alloc (.cells #[.int .i64 (n : Nat), .int .i64 (g.rows.length : Nat), .int .u32 (crc (graphB g) : Nat)] 149)).alloc (.cells #[.int .i64 0, .int .i64 0, .int .i64 0, .int .i64 0, .int .u32 0, .slice none 0 0] 103) = W1 := ⟨_, rfl⟩
  have hb1 : Below w.heap.size w W1 := by rw [← hW1]; exact bl_alloc (bl_alloc (Below.refl _ w) _) _
  have hs1 : W1.heap[w.heap.size]? = some (.cells #[.int .i64 (n : Nat), .int .i64 (g.rows.length : Nat), .int .u32 (crc (graphB g) : Nat)] 149 (0, 0)) := by rw [← hW1]; exact heap_alloc2_old _ _ _
  have hr1 : W1.heap[w.heap.size + 1]? = some (.cells #[.int .i64 0, .int .i64 0, .int .i64 0, .int .i64 0, .int .u32 0, .slice none 0 0] 103 (0, 0)) := by rw [← hW1]; exact heap_alloc2_new _ _ _
  have hz1 : W1.heap.size = w.heap.size + 2 := by rw [← hW1]; simp
  have HNm := Lib.hid (fun W => nName n hn W)
  have htx : (⟨(graphB g).toArray⟩ : ByteArray).data.toList = graphB g := by simp
  have HRd := Lib.hid (show ∀ W, Below W1.heap.size W1 W → Calls Tryz.prog 17 #[.pointer (some ⟨p, 0, none⟩), .string (nameG n)] W fun e w' => e = .returned (.tuple #[.string ⟨(graphB g).toArray⟩, .int .i64 0]) ∧ w' = W from fun W hW =>
    dRead p q F v (nameG n) (graphB g) W ((hD.below hb1).below hW) (by have := (NameOk.small (.inr (.inr ⟨n, hn, rfl⟩))).1; exact this) hm)
  have HSm := Lib.hid (show ∀ W b, StrsAt W (some ⟨b, 0, none⟩) [(⟨(graphB g).toArray⟩ : ByteArray)] → Calls Tryz.prog 90 #[.slice (some ⟨b, 0, none⟩) 1 1] W fun e w' => e = .returned (.int .u32 (crc (graphB g) : Nat)) ∧ Below W.heap.size W w' from fun W b hW => by
    have := sum_at (some ⟨b, 0, none⟩) 1 1 [(⟨(graphB g).toArray⟩ : ByteArray)] rfl (by decide) W hW
    rw [flat_one, htx] at this
    exact this)
  have HDc := Lib.hid (fun W => gDecode parOk g hg ⟨(graphB g).toArray⟩ htx W)
  have HLn := Lib.hid (show ∀ W, Upd (fun k => k = w.heap.size + 1) W1 W → Calls Tryz.prog 16 #[.pointer (some ⟨x, 0, none⟩)] W fun e w' => e = .returned (.int .i64 (g.base : Nat)) ∧ Below W.heap.size W w' from fun W hW => by
    have hfl := h.flt
    have h2 := (h.below hb1).stays (y := W) ⟨fun k hk => hW.block k (by have := hfl k hk; omega) (fun e => by have := hfl k hk; have e2 : k = w.heap.size + 1 := e; omega), hW.size⟩
    have := xLen h2 hl ht
    rwa [← hbase] at this)
  have cx : W1.cell? ⟨x, 0, none⟩ = some (.pointer (some ⟨p, 0, none⟩)) := bl_cell hb1 (by rw [cell_of_row _ _ _ _ _ _ h.box, ← hp]; rfl)
  have cl : W1.cell? ⟨w.heap.size, 0, none⟩ = some (.int .i64 (n : Nat)) ∧ W1.cell? ⟨w.heap.size, 1, none⟩ = some (.int .i64 (g.rows.length : Nat)) ∧ W1.cell? ⟨w.heap.size, 2, none⟩ = some (.int .u32 (crc (graphB g) : Nat)) :=
    ⟨by rw [cell_of_row _ _ _ _ _ _ hs1]; rfl, by rw [cell_of_row _ _ _ _ _ _ hs1]; rfl, by rw [cell_of_row _ _ _ _ _ _ hs1]; rfl⟩
  have HC := Lib.hid (show ∀ W, Below W1.heap.size W1 W → W.cell? ⟨x, 0, none⟩ = some (.pointer (some ⟨p, 0, none⟩)) ∧ W.cell? ⟨w.heap.size, 0, none⟩ = some (.int .i64 (n : Nat)) ∧ W.cell? ⟨w.heap.size, 1, none⟩ = some (.int .i64 (g.rows.length : Nat)) ∧ W.cell? ⟨w.heap.size, 2, none⟩ = some (.int .u32 (crc (graphB g) : Nat)) from fun W hW => ⟨bl_cell hW cx, bl_cell hW cl.1, bl_cell hW cl.2.1, bl_cell hW cl.2.2⟩)
  have HSt := Lib.hid (show ∀ W : World, StrsAt (W.alloc (.cells #[.string ⟨(graphB g).toArray⟩] 9)) (some ⟨W.heap.size, 0, none⟩) [(⟨(graphB g).toArray⟩ : ByteArray)] from fun W => strs_new W 9 [(⟨(graphB g).toArray⟩ : ByteArray)] (fun s hs => by
    rw [List.mem_singleton.1 hs]
    have h1 := graphB_len g
    have h2 := hg.small
    show (graphB g).toArray.size ≤ maxLen
    unfold maxLen
    simp
    omega) #[.string ⟨(graphB g).toArray⟩] rfl)
  have HW1 := Lib.hid hW1; have HB1 := Lib.hid hb1; have HR1 := Lib.hid hr1; have HZ1 := Lib.hid hz1; have HS1 := Lib.hid hs1
  have hd1 : decide ((g.base : Int) + (g.rows.length : Int) ≤ (N : Int)) = true := decide_eq_true (by omega)
  have hd2 : decide (g.base + g.rows.length ≤ N) = true := decide_eq_true (by omega)
  have hw1 : IntKind.i64.wrap ((g.base : Int) + (g.rows.length : Int)) = (g.base : Int) + (g.rows.length : Int) := by rw [IntWalk.i64_in _ (by omega)]
  have HBR := Lib.hid (Below.refl W1.heap.size W1)
  clear h hp hD hg hm hbase ht hW1 hb1 hs1 hr1 hz1 htx cx cl hc hN
  go_enter Tryz.func69, Tryz.ntmps69
  go_wp2_with fail
  rw [HW1.out]
  go_wp2_with fail
  go_region_held3 (fun w' => w'.cell? ⟨x, 0, none⟩ = some (.pointer (some ⟨p, 0, none⟩)) ∧ w'.cell? ⟨w.heap.size, 0, none⟩ = some (.int .i64 (n : Nat)))
    (first | exact ⟨(HC.out _ (bl_drew HBR.out)).1, (HC.out _ (bl_drew HBR.out)).2.1⟩)
    (first
      | (go_at_call 93; (with_reducible refine (HNm.out _).mono ?_); rintro e w2 ⟨rfl, rfl⟩)
      | (go_at_call 17; (with_reducible refine (HRd.out _ (bl_drew HBR.out)).mono ?_); rintro e w2 ⟨rfl, rfl⟩))
  all_goals
    obtain ⟨WA, hWA⟩ : ∃ WA, W1.drew = WA := ⟨_, rfl⟩
    have HBA := Lib.hid (show Below W1.heap.size W1 WA from by rw [← hWA]; exact bl_drew HBR.out)
    go_wp2_with fail
    rw [hWA]
    clear hWA
    have HB5 := Lib.hid True.intro
    have HSt2 := Lib.hid (show ∀ W : World, StrsAt (W.alloc (.cells #[.string ⟨(graphB g).toArray⟩] 9)).drew (some ⟨W.heap.size, 0, none⟩) [(⟨(graphB g).toArray⟩ : ByteArray)] from fun W => HSt.out W)
    have HSt3 := Lib.hid (show ∀ W : World, StrsAt (W.drew.alloc (.cells #[.string ⟨(graphB g).toArray⟩] 9)) (some ⟨W.heap.size, 0, none⟩) [(⟨(graphB g).toArray⟩ : ByteArray)] from fun W => HSt.out W)
    go_region_held3 (fun w' => w'.cell? ⟨w.heap.size, 2, none⟩ = some (.int .u32 (crc (graphB g) : Nat)))
      (first | with_reducible exact (HC.out _ HB5.out).2.2.2 | with_reducible exact (HC.out _ (bl_drew HBA.out)).2.2.2 | with_reducible exact (HC.out _ (bl_drew (bl_alloc HBA.out _))).2.2.2 | with_reducible exact (HC.out _ (bl_alloc (bl_drew HBA.out) _)).2.2.2)
      (first
        | (go_at_call 90; (with_reducible refine (HSm.out _ _ (by first | exact HSt2.out _ | exact HSt3.out _ | exact HSt.out _)).mono ?_); rintro e w5 ⟨rfl, hb⟩; have HB5 := Lib.hid (show Below W1.heap.size W1 w5 from by first | exact bl_trans (bl_drew (bl_alloc HBA.out _)) hb | exact bl_trans (bl_alloc (bl_drew HBA.out) _) hb); clear hb))
    all_goals
      go_wp2_with fail
      (with_reducible refine (HDc.out _).mono ?_)
      rintro e w6 ⟨v6, rfl, hro, hb⟩
      have hb6 := bl_trans HB5.out hb
      obtain ⟨ga, gc, rfl, hL, hgl, hgm⟩ := hro.keeps (Nat.le_refl _)
      obtain ⟨W7, hW7⟩ : ∃ W7, w6.alloc (.cells #[.int .i64 (g.base : Nat), .int .i64 (g.set.H : Nat), .int .i64 (g.set.P : Nat), .int .i64 (g.set.M : Nat), .int .u32 (g.set.S : Nat), .slice ga g.rows.length gc] 103) = W7 := ⟨_, rfl⟩
      have hb67 : Below w6.heap.size w6 W7 := by rw [← hW7]; exact bl_alloc (Below.refl _ _) _
      have hb7 : Below W1.heap.size W1 W7 := bl_trans hb6 hb67
      have hgx : W7.heap[w6.heap.size]? = some (.cells #[.int .i64 (g.base : Nat), .int .i64 (g.set.H : Nat), .int .i64 (g.set.P : Nat), .int .i64 (g.set.M : Nat), .int .u32 (g.set.S : Nat), .slice ga g.rows.length gc] 103 (0, 0)) := by rw [← hW7]; exact heap_alloc_new _ _
      have HBS0 := Lib.hid (show W1.heap.size ≤ w6.heap.size ∧ W1.heap.size = w.heap.size + 2 from ⟨hb6.size, HZ1.out⟩)
      have hz7 : w6.heap.size < W7.heap.size := (Array.getElem?_eq_some_iff.1 hgx).1
      have HG := Lib.hid (show ∀ Y, Upd (fun k => k = w.heap.size + 1) W7 Y → Y.cell? ⟨w6.heap.size, 0, none⟩ = some (.int .i64 (g.base : Nat)) ∧ Y.cell? ⟨w6.heap.size, 1, none⟩ = some (.int .i64 (g.set.H : Nat)) ∧ Y.cell? ⟨w6.heap.size, 2, none⟩ = some (.int .i64 (g.set.P : Nat)) ∧ Y.cell? ⟨w6.heap.size, 3, none⟩ = some (.int .i64 (g.set.M : Nat)) ∧ Y.cell? ⟨w6.heap.size, 4, none⟩ = some (.int .u32 (g.set.S : Nat)) ∧ Y.cell? ⟨w6.heap.size, 5, none⟩ = some (.slice ga g.rows.length gc) ∧ Y.cell? ⟨w.heap.size, 1, none⟩ = some (.int .i64 (g.rows.length : Nat)) from fun Y hY => by
        have hy := (hY.block _ hz7 (by have := HBS0.out; omega)).trans hgx
        have hw7z := hb7.size
        have hyw := (hY.block w.heap.size (by have := HZ1.out; omega) (by omega)).trans ((hb7.block _ (by have := HZ1.out; omega)).trans HS1.out)
        exact ⟨by rw [cell_of_row _ _ _ _ _ _ hy]; rfl, by rw [cell_of_row _ _ _ _ _ _ hy]; rfl, by rw [cell_of_row _ _ _ _ _ _ hy]; rfl, by rw [cell_of_row _ _ _ _ _ _ hy]; rfl, by rw [cell_of_row _ _ _ _ _ _ hy]; rfl, by rw [cell_of_row _ _ _ _ _ _ hy]; rfl, by rw [cell_of_row _ _ _ _ _ _ hyw]; rfl⟩)
      have HW7 := Lib.hid hW7; have HB7 := Lib.hid hb7; have HB67 := Lib.hid hb67; have HB6 := Lib.hid hb6; have HL := Lib.hid hL
      have HBS := Lib.hid (show w5.heap.size ≤ w6.heap.size ∧ W1.heap.size ≤ w5.heap.size from ⟨hb.size, HB5.out.size⟩)
      clear hW7 hb7 hgx hb67 hb6 hb hL hro hz7
      go_wp2_with fail
      rw [HW7.out]
      refine wp_region_noPanic ?_
      refine wp_region_L (z := 100) (y := 100) (S2 := fun _ => True) (S3 := fun _ => True) (S1 := fun Y => Y.cell? ⟨w6.heap.size, 0, none⟩ = some (.int .i64 (g.base : Nat)) ∧ Y.cell? ⟨w6.heap.size, 1, none⟩ = some (.int .i64 (g.set.H : Nat)) ∧ Y.cell? ⟨w6.heap.size, 2, none⟩ = some (.int .i64 (g.set.P : Nat)) ∧ Y.cell? ⟨w6.heap.size, 3, none⟩ = some (.int .i64 (g.set.M : Nat)) ∧ Y.cell? ⟨w6.heap.size, 4, none⟩ = some (.int .u32 (g.set.S : Nat)) ∧ Y.cell? ⟨w6.heap.size, 5, none⟩ = some (.slice ga g.rows.length gc) ∧ Y.cell? ⟨w.heap.size, 1, none⟩ = some (.int .i64 (g.rows.length : Nat))) (by kernel_rfl) ?_
      refine wpAnyL_take (T := fun Y => Y.cell? ⟨w6.heap.size, 0, none⟩ = some (.int .i64 (g.base : Nat)) ∧ Y.cell? ⟨w6.heap.size, 1, none⟩ = some (.int .i64 (g.set.H : Nat)) ∧ Y.cell? ⟨w6.heap.size, 2, none⟩ = some (.int .i64 (g.set.P : Nat)) ∧ Y.cell? ⟨w6.heap.size, 3, none⟩ = some (.int .i64 (g.set.M : Nat)) ∧ Y.cell? ⟨w6.heap.size, 4, none⟩ = some (.int .u32 (g.set.S : Nat)) ∧ Y.cell? ⟨w6.heap.size, 5, none⟩ = some (.slice ga g.rows.length gc) ∧ Y.cell? ⟨w.heap.size, 1, none⟩ = some (.int .i64 (g.rows.length : Nat))) (i := 0) (oi := ⟨some 38, _, _, _, _, _⟩) (v := ?_) rfl (by decide) (by decide) (by kernel_rfl) (by kernel_rfl) (by kernel_rfl) (fun _ _ _ h => h) (.inl fun _ h => h) (Or.inl ⟨by rfl, ?hy0⟩) ⟨HG.out _ (Upd.drew (Upd.refl _ _)), fun _ => trivial, fun _ => trivial⟩ ?hr0
      case hy0 => (intro w' hSw; (try dsimp only at hSw); go_simp <;> (with_reducible rfl))
      (try simp only [Act.put, List.setIfInBounds_toArray, List.set_cons_zero, List.set_cons_succ])
      refine wpAnyL_take (T := fun Y => Y.cell? ⟨w6.heap.size, 0, none⟩ = some (.int .i64 (g.base : Nat)) ∧ Y.cell? ⟨w6.heap.size, 1, none⟩ = some (.int .i64 (g.set.H : Nat)) ∧ Y.cell? ⟨w6.heap.size, 2, none⟩ = some (.int .i64 (g.set.P : Nat)) ∧ Y.cell? ⟨w6.heap.size, 3, none⟩ = some (.int .i64 (g.set.M : Nat)) ∧ Y.cell? ⟨w6.heap.size, 4, none⟩ = some (.int .u32 (g.set.S : Nat)) ∧ Y.cell? ⟨w6.heap.size, 5, none⟩ = some (.slice ga g.rows.length gc) ∧ Y.cell? ⟨w.heap.size, 1, none⟩ = some (.int .i64 (g.rows.length : Nat))) (i := 1) (oi := ⟨some 39, _, _, _, _, _⟩) (v := ?_) rfl (by decide) (by decide) (by kernel_rfl) (by kernel_rfl) (by kernel_rfl) (fun _ _ _ h => h) (.inl fun _ h => h) (Or.inl ⟨by rfl, ?hy1⟩) ⟨HG.out _ (Upd.drew (Upd.refl _ _)), fun _ => trivial, fun _ => trivial⟩ ?hr1
      case hy1 => (intro w' hSw; (try dsimp only at hSw); go_simp <;> (with_reducible rfl))
      (try simp only [Act.put, List.setIfInBounds_toArray, List.set_cons_zero, List.set_cons_succ])
      refine wpAnyL_take (T := fun Y => Y.cell? ⟨w6.heap.size, 0, none⟩ = some (.int .i64 (g.base : Nat)) ∧ Y.cell? ⟨w6.heap.size, 1, none⟩ = some (.int .i64 (g.set.H : Nat)) ∧ Y.cell? ⟨w6.heap.size, 2, none⟩ = some (.int .i64 (g.set.P : Nat)) ∧ Y.cell? ⟨w6.heap.size, 3, none⟩ = some (.int .i64 (g.set.M : Nat)) ∧ Y.cell? ⟨w6.heap.size, 4, none⟩ = some (.int .u32 (g.set.S : Nat)) ∧ Y.cell? ⟨w6.heap.size, 5, none⟩ = some (.slice ga g.rows.length gc) ∧ Y.cell? ⟨w.heap.size, 1, none⟩ = some (.int .i64 (g.rows.length : Nat))) (i := 2) (oi := ⟨some 40, _, _, _, _, _⟩) (v := ?_) rfl (by decide) (by decide) (by kernel_rfl) (by kernel_rfl) (by kernel_rfl) (fun _ _ _ h => h) (.inl fun _ h => h) (Or.inl ⟨by rfl, ?hy2⟩) ⟨HG.out _ (Upd.drew (Upd.refl _ _)), fun _ => trivial, fun _ => trivial⟩ ?hr2
      case hy2 => (intro w' hSw; (try dsimp only at hSw); go_simp <;> (with_reducible rfl))
      (try simp only [Act.put, List.setIfInBounds_toArray, List.set_cons_zero, List.set_cons_succ])
      refine wpAnyL_take (T := fun Y => Y.cell? ⟨w6.heap.size, 0, none⟩ = some (.int .i64 (g.base : Nat)) ∧ Y.cell? ⟨w6.heap.size, 1, none⟩ = some (.int .i64 (g.set.H : Nat)) ∧ Y.cell? ⟨w6.heap.size, 2, none⟩ = some (.int .i64 (g.set.P : Nat)) ∧ Y.cell? ⟨w6.heap.size, 3, none⟩ = some (.int .i64 (g.set.M : Nat)) ∧ Y.cell? ⟨w6.heap.size, 4, none⟩ = some (.int .u32 (g.set.S : Nat)) ∧ Y.cell? ⟨w6.heap.size, 5, none⟩ = some (.slice ga g.rows.length gc) ∧ Y.cell? ⟨w.heap.size, 1, none⟩ = some (.int .i64 (g.rows.length : Nat))) (i := 3) (oi := ⟨some 41, _, _, _, _, _⟩) (v := ?_) rfl (by decide) (by decide) (by kernel_rfl) (by kernel_rfl) (by kernel_rfl) (fun _ _ _ h => h) (.inl fun _ h => h) (Or.inl ⟨by rfl, ?hy3⟩) ⟨HG.out _ (Upd.drew (Upd.refl _ _)), fun _ => trivial, fun _ => trivial⟩ ?hr3
      case hy3 => (intro w' hSw; (try dsimp only at hSw); go_simp <;> (with_reducible rfl))
      (try simp only [Act.put, List.setIfInBounds_toArray, List.set_cons_zero, List.set_cons_succ])
      refine wpAnyL_take (T := fun Y => Y.cell? ⟨w6.heap.size, 0, none⟩ = some (.int .i64 (g.base : Nat)) ∧ Y.cell? ⟨w6.heap.size, 1, none⟩ = some (.int .i64 (g.set.H : Nat)) ∧ Y.cell? ⟨w6.heap.size, 2, none⟩ = some (.int .i64 (g.set.P : Nat)) ∧ Y.cell? ⟨w6.heap.size, 3, none⟩ = some (.int .i64 (g.set.M : Nat)) ∧ Y.cell? ⟨w6.heap.size, 4, none⟩ = some (.int .u32 (g.set.S : Nat)) ∧ Y.cell? ⟨w6.heap.size, 5, none⟩ = some (.slice ga g.rows.length gc) ∧ Y.cell? ⟨w.heap.size, 1, none⟩ = some (.int .i64 (g.rows.length : Nat))) (i := 4) (oi := ⟨some 42, _, _, _, _, _⟩) (v := ?_) rfl (by decide) (by decide) (by kernel_rfl) (by kernel_rfl) (by kernel_rfl) (fun _ _ _ h => h) (.inl fun _ h => h) (Or.inl ⟨by rfl, ?hy4⟩) ⟨HG.out _ (Upd.drew (Upd.refl _ _)), fun _ => trivial, fun _ => trivial⟩ ?hr4
      case hy4 => (intro w' hSw; (try dsimp only at hSw); go_simp <;> (with_reducible rfl))
      (try simp only [Act.put, List.setIfInBounds_toArray, List.set_cons_zero, List.set_cons_succ])
      refine wpAnyL_take (T := fun Y => Y.cell? ⟨w6.heap.size, 0, none⟩ = some (.int .i64 (g.base : Nat)) ∧ Y.cell? ⟨w6.heap.size, 1, none⟩ = some (.int .i64 (g.set.H : Nat)) ∧ Y.cell? ⟨w6.heap.size, 2, none⟩ = some (.int .i64 (g.set.P : Nat)) ∧ Y.cell? ⟨w6.heap.size, 3, none⟩ = some (.int .i64 (g.set.M : Nat)) ∧ Y.cell? ⟨w6.heap.size, 4, none⟩ = some (.int .u32 (g.set.S : Nat)) ∧ Y.cell? ⟨w6.heap.size, 5, none⟩ = some (.slice ga g.rows.length gc) ∧ Y.cell? ⟨w.heap.size, 1, none⟩ = some (.int .i64 (g.rows.length : Nat))) (i := 5) (oi := ⟨some 43, _, _, _, _, _⟩) (v := ?_) rfl (by decide) (by decide) (by kernel_rfl) (by kernel_rfl) (by kernel_rfl) (fun _ _ _ h => h) (.inl fun _ h => h) (Or.inl ⟨by rfl, ?hy5⟩) ⟨HG.out _ (Upd.drew (Upd.refl _ _)), fun _ => trivial, fun _ => trivial⟩ ?hr5
      case hy5 => (intro w' hSw; (try dsimp only at hSw); go_simp <;> (with_reducible rfl))
      (try simp only [Act.put, List.setIfInBounds_toArray, List.set_cons_zero, List.set_cons_succ])
      refine wpAnyL_take (T := fun Y => Y.cell? ⟨w6.heap.size, 0, none⟩ = some (.int .i64 (g.base : Nat)) ∧ Y.cell? ⟨w6.heap.size, 1, none⟩ = some (.int .i64 (g.set.H : Nat)) ∧ Y.cell? ⟨w6.heap.size, 2, none⟩ = some (.int .i64 (g.set.P : Nat)) ∧ Y.cell? ⟨w6.heap.size, 3, none⟩ = some (.int .i64 (g.set.M : Nat)) ∧ Y.cell? ⟨w6.heap.size, 4, none⟩ = some (.int .u32 (g.set.S : Nat)) ∧ Y.cell? ⟨w6.heap.size, 5, none⟩ = some (.slice ga g.rows.length gc) ∧ Y.cell? ⟨w.heap.size, 1, none⟩ = some (.int .i64 (g.rows.length : Nat))) (i := 6) (oi := ⟨some 44, _, _, _, _, _⟩) (v := ?_) rfl (by decide) (by decide) (by kernel_rfl) (by kernel_rfl) (by kernel_rfl) (fun _ _ _ h => h) (.inl fun _ h => h) (Or.inl ⟨by rfl, ?hy6⟩) ⟨HG.out _ (Upd.drew (Upd.refl _ _)), fun _ => trivial, fun _ => trivial⟩ ?hr6
      case hy6 => (intro w' hSw; (try dsimp only at hSw); go_simp <;> (with_reducible rfl))
      (try simp only [Act.put, List.setIfInBounds_toArray, List.set_cons_zero, List.set_cons_succ])
      refine wpAnyL_one (i := 7) (o := ⟨some 45, _, _, _, _, _⟩) (by kernel_rfl) rfl (fun K hK => ?_)
      go_simp
      go_at_call 16
      (with_reducible refine (HLn.out _ (Upd.of (bl_drew HB7.out))).mono ?_)
      rintro e w9 ⟨rfl, hb⟩
      have hbl := bl_trans (bl_drew (Below.refl W7.heap.size W7)) hb
      have hu9 : Upd (fun k => k = w.heap.size + 1) W7 w9 := Upd.of hbl
      have hr9 := ((bl_trans HB7.out hbl).block (w.heap.size + 1) (by have := HZ1.out; omega)).trans HR1.out
      have HB9 := Lib.hid hu9; have HBL := Lib.hid hbl; have HE9 := Lib.hid hr9
      clear hb hbl hu9 hr9
      refine hK.out _ _ ⟨HG.out _ HB9.out, fun _ => trivial, fun _ => trivial⟩ ?_
      clear hK K
      (try simp only [Act.put, List.setIfInBounds_toArray, List.set_cons_zero, List.set_cons_succ])
      refine wpAnyL_take (T := fun Y => Y.cell? ⟨w6.heap.size, 0, none⟩ = some (.int .i64 (g.base : Nat)) ∧ Y.cell? ⟨w6.heap.size, 1, none⟩ = some (.int .i64 (g.set.H : Nat)) ∧ Y.cell? ⟨w6.heap.size, 2, none⟩ = some (.int .i64 (g.set.P : Nat)) ∧ Y.cell? ⟨w6.heap.size, 3, none⟩ = some (.int .i64 (g.set.M : Nat)) ∧ Y.cell? ⟨w6.heap.size, 4, none⟩ = some (.int .u32 (g.set.S : Nat)) ∧ Y.cell? ⟨w6.heap.size, 5, none⟩ = some (.slice ga g.rows.length gc) ∧ Y.cell? ⟨w.heap.size, 1, none⟩ = some (.int .i64 (g.rows.length : Nat))) (i := 8) (oi := ⟨some 46, _, _, _, _, _⟩) (v := ?_) rfl (by decide) (by decide) (by kernel_rfl) (by kernel_rfl) (by kernel_rfl) (fun _ _ _ h => h) (.inl fun _ h => h) (Or.inl ⟨by rfl, ?hy8⟩) ⟨HG.out _ HB9.out, fun _ => trivial, fun _ => trivial⟩ ?hr8
      case hy8 => (intro w' hSw; (try dsimp only at hSw); go_simp <;> (with_reducible rfl))
      (try simp only [Act.put, List.setIfInBounds_toArray, List.set_cons_zero, List.set_cons_succ])
      refine wpAnyL_take (T := fun Y => Y.cell? ⟨w6.heap.size, 0, none⟩ = some (.int .i64 (g.base : Nat)) ∧ Y.cell? ⟨w6.heap.size, 1, none⟩ = some (.int .i64 (g.set.H : Nat)) ∧ Y.cell? ⟨w6.heap.size, 2, none⟩ = some (.int .i64 (g.set.P : Nat)) ∧ Y.cell? ⟨w6.heap.size, 3, none⟩ = some (.int .i64 (g.set.M : Nat)) ∧ Y.cell? ⟨w6.heap.size, 4, none⟩ = some (.int .u32 (g.set.S : Nat)) ∧ Y.cell? ⟨w6.heap.size, 5, none⟩ = some (.slice ga g.rows.length gc) ∧ Y.cell? ⟨w.heap.size, 1, none⟩ = some (.int .i64 (g.rows.length : Nat))) (i := 9) (oi := ⟨some 47, _, _, _, _, _⟩) (v := ?_) rfl (by decide) (by decide) (by kernel_rfl) (by kernel_rfl) (by kernel_rfl) (fun _ _ _ h => h) (.inl fun _ h => h) (Or.inl ⟨by rfl, ?hy9⟩) ⟨HG.out _ HB9.out, fun _ => trivial, fun _ => trivial⟩ ?hr9
      case hy9 => (intro w' hSw; (try dsimp only at hSw); go_simp <;> (with_reducible rfl))
      (try simp only [Act.put, List.setIfInBounds_toArray, List.set_cons_zero, List.set_cons_succ])
      refine wpAnyL_take (T := fun Y => Y.cell? ⟨w6.heap.size, 0, none⟩ = some (.int .i64 (g.base : Nat)) ∧ Y.cell? ⟨w6.heap.size, 1, none⟩ = some (.int .i64 (g.set.H : Nat)) ∧ Y.cell? ⟨w6.heap.size, 2, none⟩ = some (.int .i64 (g.set.P : Nat)) ∧ Y.cell? ⟨w6.heap.size, 3, none⟩ = some (.int .i64 (g.set.M : Nat)) ∧ Y.cell? ⟨w6.heap.size, 4, none⟩ = some (.int .u32 (g.set.S : Nat)) ∧ Y.cell? ⟨w6.heap.size, 5, none⟩ = some (.slice ga g.rows.length gc) ∧ Y.cell? ⟨w.heap.size, 1, none⟩ = some (.int .i64 (g.rows.length : Nat))) (i := 10) (oi := ⟨some 48, _, _, _, _, _⟩) (v := ?_) rfl (by decide) (by decide) (by kernel_rfl) (by kernel_rfl) (by kernel_rfl) (fun _ _ _ h => h) (.inl fun _ h => h) (Or.inl ⟨by rfl, ?hy10⟩) ⟨HG.out _ HB9.out, fun _ => trivial, fun _ => trivial⟩ ?hr10
      case hy10 => (intro w' hSw; (try dsimp only at hSw); go_simp <;> (with_reducible rfl))
      (try simp only [Act.put, List.setIfInBounds_toArray, List.set_cons_zero, List.set_cons_succ])
      refine wpAnyL_take (T := fun Y => Y.cell? ⟨w6.heap.size, 0, none⟩ = some (.int .i64 (g.base : Nat)) ∧ Y.cell? ⟨w6.heap.size, 1, none⟩ = some (.int .i64 (g.set.H : Nat)) ∧ Y.cell? ⟨w6.heap.size, 2, none⟩ = some (.int .i64 (g.set.P : Nat)) ∧ Y.cell? ⟨w6.heap.size, 3, none⟩ = some (.int .i64 (g.set.M : Nat)) ∧ Y.cell? ⟨w6.heap.size, 4, none⟩ = some (.int .u32 (g.set.S : Nat)) ∧ Y.cell? ⟨w6.heap.size, 5, none⟩ = some (.slice ga g.rows.length gc) ∧ Y.cell? ⟨w.heap.size, 1, none⟩ = some (.int .i64 (g.rows.length : Nat))) (i := 11) (oi := ⟨some 49, _, _, _, _, _⟩) (v := ?_) rfl (by decide) (by decide) (by kernel_rfl) (by kernel_rfl) (by kernel_rfl) (fun _ _ _ h => h) (.inl fun _ h => h) (Or.inl ⟨by rfl, ?hy11⟩) ⟨HG.out _ HB9.out, fun _ => trivial, fun _ => trivial⟩ ?hr11
      case hy11 => (intro w' hSw; (try dsimp only at hSw); go_simp <;> (with_reducible rfl))
      (try simp only [Act.put, List.setIfInBounds_toArray, List.set_cons_zero, List.set_cons_succ])
      refine wpAnyL_take (T := fun Y => Y.cell? ⟨w6.heap.size, 0, none⟩ = some (.int .i64 (g.base : Nat)) ∧ Y.cell? ⟨w6.heap.size, 1, none⟩ = some (.int .i64 (g.set.H : Nat)) ∧ Y.cell? ⟨w6.heap.size, 2, none⟩ = some (.int .i64 (g.set.P : Nat)) ∧ Y.cell? ⟨w6.heap.size, 3, none⟩ = some (.int .i64 (g.set.M : Nat)) ∧ Y.cell? ⟨w6.heap.size, 4, none⟩ = some (.int .u32 (g.set.S : Nat)) ∧ Y.cell? ⟨w6.heap.size, 5, none⟩ = some (.slice ga g.rows.length gc) ∧ Y.cell? ⟨w.heap.size, 1, none⟩ = some (.int .i64 (g.rows.length : Nat))) (i := 12) (oi := ⟨some 50, _, _, _, _, _⟩) (v := ?_) rfl (by decide) (by decide) (by kernel_rfl) (by kernel_rfl) (by kernel_rfl) (fun _ _ _ h => h) (.inl fun _ h => h) (Or.inl ⟨by rfl, ?hy12⟩) ⟨HG.out _ HB9.out, fun _ => trivial, fun _ => trivial⟩ ?hr12
      case hy12 => (intro w' hSw; (try dsimp only at hSw); go_simp <;> (with_reducible rfl))
      (try simp only [Act.put, List.setIfInBounds_toArray, List.set_cons_zero, List.set_cons_succ])
      refine wpAnyL_take (T := fun Y => Y.cell? ⟨w6.heap.size, 0, none⟩ = some (.int .i64 (g.base : Nat)) ∧ Y.cell? ⟨w6.heap.size, 1, none⟩ = some (.int .i64 (g.set.H : Nat)) ∧ Y.cell? ⟨w6.heap.size, 2, none⟩ = some (.int .i64 (g.set.P : Nat)) ∧ Y.cell? ⟨w6.heap.size, 3, none⟩ = some (.int .i64 (g.set.M : Nat)) ∧ Y.cell? ⟨w6.heap.size, 4, none⟩ = some (.int .u32 (g.set.S : Nat)) ∧ Y.cell? ⟨w6.heap.size, 5, none⟩ = some (.slice ga g.rows.length gc) ∧ Y.cell? ⟨w.heap.size, 1, none⟩ = some (.int .i64 (g.rows.length : Nat))) (i := 13) (oi := ⟨some 51, _, _, _, _, _⟩) (v := ?_) rfl (by decide) (by decide) (by kernel_rfl) (by kernel_rfl) (by kernel_rfl) (fun _ _ _ h => h) (.inl fun _ h => h) (Or.inl ⟨by rfl, ?hy13⟩) ⟨HG.out _ HB9.out, fun _ => trivial, fun _ => trivial⟩ ?hr13
      case hy13 => (intro w' hSw; (try dsimp only at hSw); go_simp <;> (with_reducible rfl))
      (try simp only [Act.put, List.setIfInBounds_toArray, List.set_cons_zero, List.set_cons_succ])
      refine wpAnyL_take (T := fun Y => Y.cell? ⟨w6.heap.size, 0, none⟩ = some (.int .i64 (g.base : Nat)) ∧ Y.cell? ⟨w6.heap.size, 1, none⟩ = some (.int .i64 (g.set.H : Nat)) ∧ Y.cell? ⟨w6.heap.size, 2, none⟩ = some (.int .i64 (g.set.P : Nat)) ∧ Y.cell? ⟨w6.heap.size, 3, none⟩ = some (.int .i64 (g.set.M : Nat)) ∧ Y.cell? ⟨w6.heap.size, 4, none⟩ = some (.int .u32 (g.set.S : Nat)) ∧ Y.cell? ⟨w6.heap.size, 5, none⟩ = some (.slice ga g.rows.length gc) ∧ Y.cell? ⟨w.heap.size, 1, none⟩ = some (.int .i64 (g.rows.length : Nat))) (i := 14) (oi := ⟨some 52, _, _, _, _, _⟩) (v := ?_) rfl (by decide) (by decide) (by kernel_rfl) (by kernel_rfl) (by kernel_rfl) (fun _ _ _ h => h) (.inl fun _ h => h) (Or.inl ⟨by rfl, ?hy14⟩) ⟨HG.out _ HB9.out, fun _ => trivial, fun _ => trivial⟩ ?hr14
      case hy14 => (intro w' hSw; (try dsimp only at hSw); go_simp <;> (with_reducible rfl))
      (try simp only [Act.put, List.setIfInBounds_toArray, List.set_cons_zero, List.set_cons_succ])
      refine wpAnyL_take (T := fun Y => Y.cell? ⟨w6.heap.size, 0, none⟩ = some (.int .i64 (g.base : Nat)) ∧ Y.cell? ⟨w6.heap.size, 1, none⟩ = some (.int .i64 (g.set.H : Nat)) ∧ Y.cell? ⟨w6.heap.size, 2, none⟩ = some (.int .i64 (g.set.P : Nat)) ∧ Y.cell? ⟨w6.heap.size, 3, none⟩ = some (.int .i64 (g.set.M : Nat)) ∧ Y.cell? ⟨w6.heap.size, 4, none⟩ = some (.int .u32 (g.set.S : Nat)) ∧ Y.cell? ⟨w6.heap.size, 5, none⟩ = some (.slice ga g.rows.length gc) ∧ Y.cell? ⟨w.heap.size, 1, none⟩ = some (.int .i64 (g.rows.length : Nat))) (i := 15) (oi := ⟨some 53, _, _, _, _, _⟩) (v := ?_) rfl (by decide) (by decide) (by kernel_rfl) (by kernel_rfl) (by kernel_rfl) (fun _ _ _ h => h) (.inl fun _ h => h) (Or.inl ⟨by rfl, ?hy15⟩) ⟨HG.out _ HB9.out, fun _ => trivial, fun _ => trivial⟩ ?hr15
      case hy15 => (intro w' hSw; (try dsimp only at hSw); go_simp <;> (with_reducible rfl))
      (try simp only [Act.put, List.setIfInBounds_toArray, List.set_cons_zero, List.set_cons_succ])
      refine wpAnyL_take (T := fun Y => Y.cell? ⟨w6.heap.size, 0, none⟩ = some (.int .i64 (g.base : Nat)) ∧ Y.cell? ⟨w6.heap.size, 1, none⟩ = some (.int .i64 (g.set.H : Nat)) ∧ Y.cell? ⟨w6.heap.size, 2, none⟩ = some (.int .i64 (g.set.P : Nat)) ∧ Y.cell? ⟨w6.heap.size, 3, none⟩ = some (.int .i64 (g.set.M : Nat)) ∧ Y.cell? ⟨w6.heap.size, 4, none⟩ = some (.int .u32 (g.set.S : Nat)) ∧ Y.cell? ⟨w6.heap.size, 5, none⟩ = some (.slice ga g.rows.length gc) ∧ Y.cell? ⟨w.heap.size, 1, none⟩ = some (.int .i64 (g.rows.length : Nat))) (i := 16) (oi := ⟨some 54, _, _, _, _, _⟩) (v := ?_) rfl (by decide) (by decide) (by kernel_rfl) (by kernel_rfl) (by kernel_rfl) (fun _ _ _ h => h) (.inl fun _ h => h) (Or.inl ⟨by rfl, ?hy16⟩) ⟨HG.out _ HB9.out, fun _ => trivial, fun _ => trivial⟩ ?hr16
      case hy16 => (intro w' hSw; (try dsimp only at hSw); go_simp <;> (with_reducible rfl))
      (try simp only [Act.put, List.setIfInBounds_toArray, List.set_cons_zero, List.set_cons_succ])
      refine wpAnyL_take (T := fun Y => Y.cell? ⟨w6.heap.size, 0, none⟩ = some (.int .i64 (g.base : Nat)) ∧ Y.cell? ⟨w6.heap.size, 1, none⟩ = some (.int .i64 (g.set.H : Nat)) ∧ Y.cell? ⟨w6.heap.size, 2, none⟩ = some (.int .i64 (g.set.P : Nat)) ∧ Y.cell? ⟨w6.heap.size, 3, none⟩ = some (.int .i64 (g.set.M : Nat)) ∧ Y.cell? ⟨w6.heap.size, 4, none⟩ = some (.int .u32 (g.set.S : Nat)) ∧ Y.cell? ⟨w6.heap.size, 5, none⟩ = some (.slice ga g.rows.length gc) ∧ Y.cell? ⟨w.heap.size, 1, none⟩ = some (.int .i64 (g.rows.length : Nat))) (i := 17) (oi := ⟨some 55, _, _, _, _, _⟩) (v := ?_) rfl (by decide) (by decide) (by kernel_rfl) (by kernel_rfl) (by kernel_rfl) (fun _ _ _ h => h) (.inl fun _ h => h) (Or.inl ⟨by rfl, ?hy17⟩) ⟨HG.out _ HB9.out, fun _ => trivial, fun _ => trivial⟩ ?hr17
      case hy17 => (intro w' hSw; (try dsimp only at hSw); go_simp <;> (with_reducible rfl))
      (try simp only [Act.put, List.setIfInBounds_toArray, List.set_cons_zero, List.set_cons_succ])
      refine wpAnyL_take (T := fun Y => Y.cell? ⟨w6.heap.size, 0, none⟩ = some (.int .i64 (g.base : Nat)) ∧ Y.cell? ⟨w6.heap.size, 1, none⟩ = some (.int .i64 (g.set.H : Nat)) ∧ Y.cell? ⟨w6.heap.size, 2, none⟩ = some (.int .i64 (g.set.P : Nat)) ∧ Y.cell? ⟨w6.heap.size, 3, none⟩ = some (.int .i64 (g.set.M : Nat)) ∧ Y.cell? ⟨w6.heap.size, 4, none⟩ = some (.int .u32 (g.set.S : Nat)) ∧ Y.cell? ⟨w6.heap.size, 5, none⟩ = some (.slice ga g.rows.length gc) ∧ Y.cell? ⟨w.heap.size, 1, none⟩ = some (.int .i64 (g.rows.length : Nat))) (i := 18) (oi := ⟨some 56, _, _, _, _, _⟩) (v := ?_) rfl (by decide) (by decide) (by kernel_rfl) (by kernel_rfl) (by kernel_rfl) (fun _ _ _ h => h) (.inl fun _ h => h) (Or.inl ⟨by rfl, ?hy18⟩) ⟨HG.out _ HB9.out, fun _ => trivial, fun _ => trivial⟩ ?hr18
      case hy18 => (intro w' hSw; (try dsimp only at hSw); go_simp <;> (with_reducible rfl))
      (try simp only [Act.put, List.setIfInBounds_toArray, List.set_cons_zero, List.set_cons_succ])
      refine wpAnyL_take (T := fun Y => Y.cell? ⟨w6.heap.size, 0, none⟩ = some (.int .i64 (g.base : Nat)) ∧ Y.cell? ⟨w6.heap.size, 1, none⟩ = some (.int .i64 (g.set.H : Nat)) ∧ Y.cell? ⟨w6.heap.size, 2, none⟩ = some (.int .i64 (g.set.P : Nat)) ∧ Y.cell? ⟨w6.heap.size, 3, none⟩ = some (.int .i64 (g.set.M : Nat)) ∧ Y.cell? ⟨w6.heap.size, 4, none⟩ = some (.int .u32 (g.set.S : Nat)) ∧ Y.cell? ⟨w6.heap.size, 5, none⟩ = some (.slice ga g.rows.length gc) ∧ Y.cell? ⟨w.heap.size, 1, none⟩ = some (.int .i64 (g.rows.length : Nat))) (i := 19) (oi := ⟨some 57, _, _, _, _, _⟩) (v := ?_) rfl (by decide) (by decide) (by kernel_rfl) (by kernel_rfl) (by kernel_rfl) (fun _ _ _ h => h) (.inl fun _ h => h) (Or.inl ⟨by rfl, ?hy19⟩) ⟨HG.out _ HB9.out, fun _ => trivial, fun _ => trivial⟩ ?hr19
      case hy19 => (intro w' hSw; (try dsimp only at hSw); go_simp <;> (with_reducible rfl))
      (try simp only [Act.put, List.setIfInBounds_toArray, List.set_cons_zero, List.set_cons_succ])
      refine wpAnyL_take (T := fun Y => Y.cell? ⟨w6.heap.size, 0, none⟩ = some (.int .i64 (g.base : Nat)) ∧ Y.cell? ⟨w6.heap.size, 1, none⟩ = some (.int .i64 (g.set.H : Nat)) ∧ Y.cell? ⟨w6.heap.size, 2, none⟩ = some (.int .i64 (g.set.P : Nat)) ∧ Y.cell? ⟨w6.heap.size, 3, none⟩ = some (.int .i64 (g.set.M : Nat)) ∧ Y.cell? ⟨w6.heap.size, 4, none⟩ = some (.int .u32 (g.set.S : Nat)) ∧ Y.cell? ⟨w6.heap.size, 5, none⟩ = some (.slice ga g.rows.length gc) ∧ Y.cell? ⟨w.heap.size, 1, none⟩ = some (.int .i64 (g.rows.length : Nat))) (i := 20) (oi := ⟨some 58, _, _, _, _, _⟩) (v := ?_) rfl (by decide) (by decide) (by kernel_rfl) (by kernel_rfl) (by kernel_rfl) (fun _ _ _ h => h) (.inl fun _ h => h) (Or.inl ⟨by rfl, ?hy20⟩) ⟨HG.out _ HB9.out, fun _ => trivial, fun _ => trivial⟩ ?hr20
      case hy20 => (intro w' hSw; (try dsimp only at hSw); go_simp <;> (with_reducible rfl))
      (try simp only [Act.put, List.setIfInBounds_toArray, List.set_cons_zero, List.set_cons_succ])
      refine wpAnyL_take (T := fun Y => Y.cell? ⟨w6.heap.size, 0, none⟩ = some (.int .i64 (g.base : Nat)) ∧ Y.cell? ⟨w6.heap.size, 1, none⟩ = some (.int .i64 (g.set.H : Nat)) ∧ Y.cell? ⟨w6.heap.size, 2, none⟩ = some (.int .i64 (g.set.P : Nat)) ∧ Y.cell? ⟨w6.heap.size, 3, none⟩ = some (.int .i64 (g.set.M : Nat)) ∧ Y.cell? ⟨w6.heap.size, 4, none⟩ = some (.int .u32 (g.set.S : Nat)) ∧ Y.cell? ⟨w6.heap.size, 5, none⟩ = some (.slice ga g.rows.length gc) ∧ Y.cell? ⟨w.heap.size, 1, none⟩ = some (.int .i64 (g.rows.length : Nat))) (i := 21) (oi := ⟨some 59, _, _, _, _, _⟩) (v := ?_) rfl (by decide) (by decide) (by kernel_rfl) (by kernel_rfl) (by kernel_rfl) (fun _ _ _ h => h) (.inl fun _ h => h) (Or.inl ⟨by rfl, ?hy21⟩) ⟨HG.out _ HB9.out, fun _ => trivial, fun _ => trivial⟩ ?hr21
      case hy21 => (intro w' hSw; (try dsimp only at hSw); go_simp <;> (with_reducible rfl))
      (try simp only [Act.put, List.setIfInBounds_toArray, List.set_cons_zero, List.set_cons_succ])
      refine wpAnyL_take (T := fun Y => Y.cell? ⟨w6.heap.size, 0, none⟩ = some (.int .i64 (g.base : Nat)) ∧ Y.cell? ⟨w6.heap.size, 1, none⟩ = some (.int .i64 (g.set.H : Nat)) ∧ Y.cell? ⟨w6.heap.size, 2, none⟩ = some (.int .i64 (g.set.P : Nat)) ∧ Y.cell? ⟨w6.heap.size, 3, none⟩ = some (.int .i64 (g.set.M : Nat)) ∧ Y.cell? ⟨w6.heap.size, 4, none⟩ = some (.int .u32 (g.set.S : Nat)) ∧ Y.cell? ⟨w6.heap.size, 5, none⟩ = some (.slice ga g.rows.length gc) ∧ Y.cell? ⟨w.heap.size, 1, none⟩ = some (.int .i64 (g.rows.length : Nat))) (i := 22) (oi := ⟨some 60, _, _, _, _, _⟩) (v := ?_) rfl (by decide) (by decide) (by kernel_rfl) (by kernel_rfl) (by kernel_rfl) (fun _ _ _ h => h) (.inl fun _ h => h) (Or.inl ⟨by rfl, ?hy22⟩) ⟨HG.out _ HB9.out, fun _ => trivial, fun _ => trivial⟩ ?hr22
      case hy22 => (intro w' hSw; (try dsimp only at hSw); go_simp <;> (with_reducible rfl))
      (try simp only [Act.put, List.setIfInBounds_toArray, List.set_cons_zero, List.set_cons_succ])
      refine wpAnyL_take (T := fun Y => Y.cell? ⟨w6.heap.size, 0, none⟩ = some (.int .i64 (g.base : Nat)) ∧ Y.cell? ⟨w6.heap.size, 1, none⟩ = some (.int .i64 (g.set.H : Nat)) ∧ Y.cell? ⟨w6.heap.size, 2, none⟩ = some (.int .i64 (g.set.P : Nat)) ∧ Y.cell? ⟨w6.heap.size, 3, none⟩ = some (.int .i64 (g.set.M : Nat)) ∧ Y.cell? ⟨w6.heap.size, 4, none⟩ = some (.int .u32 (g.set.S : Nat)) ∧ Y.cell? ⟨w6.heap.size, 5, none⟩ = some (.slice ga g.rows.length gc) ∧ Y.cell? ⟨w.heap.size, 1, none⟩ = some (.int .i64 (g.rows.length : Nat))) (i := 23) (oi := ⟨some 61, _, _, _, _, _⟩) (v := ?_) rfl (by decide) (by decide) (by kernel_rfl) (by kernel_rfl) (by kernel_rfl) (fun _ _ _ h => h) (.inl fun _ h => h) (Or.inl ⟨by rfl, ?hy23⟩) ⟨HG.out _ HB9.out, fun _ => trivial, fun _ => trivial⟩ ?hr23
      case hy23 => (intro w' hSw; (try dsimp only at hSw); go_simp <;> (with_reducible rfl))
      (try simp only [Act.put, List.setIfInBounds_toArray, List.set_cons_zero, List.set_cons_succ])
      refine wpAnyL_take (T := fun Y => Y.cell? ⟨w6.heap.size, 0, none⟩ = some (.int .i64 (g.base : Nat)) ∧ Y.cell? ⟨w6.heap.size, 1, none⟩ = some (.int .i64 (g.set.H : Nat)) ∧ Y.cell? ⟨w6.heap.size, 2, none⟩ = some (.int .i64 (g.set.P : Nat)) ∧ Y.cell? ⟨w6.heap.size, 3, none⟩ = some (.int .i64 (g.set.M : Nat)) ∧ Y.cell? ⟨w6.heap.size, 4, none⟩ = some (.int .u32 (g.set.S : Nat)) ∧ Y.cell? ⟨w6.heap.size, 5, none⟩ = some (.slice ga g.rows.length gc) ∧ Y.cell? ⟨w.heap.size, 1, none⟩ = some (.int .i64 (g.rows.length : Nat))) (i := 24) (oi := ⟨some 62, _, _, _, _, _⟩) (v := ?_) rfl (by decide) (by decide) (by kernel_rfl) (by kernel_rfl) (by kernel_rfl) (fun _ _ _ h => h) (.inl fun _ h => h) (Or.inl ⟨by rfl, ?hy24⟩) ⟨HG.out _ HB9.out, fun _ => trivial, fun _ => trivial⟩ ?hr24
      case hy24 => (intro w' hSw; (try dsimp only at hSw); go_simp <;> (with_reducible rfl))
      (try simp only [Act.put, List.setIfInBounds_toArray, List.set_cons_zero, List.set_cons_succ])
      refine wpAnyL_take (T := fun Y => Y.cell? ⟨w6.heap.size, 0, none⟩ = some (.int .i64 (g.base : Nat)) ∧ Y.cell? ⟨w6.heap.size, 1, none⟩ = some (.int .i64 (g.set.H : Nat)) ∧ Y.cell? ⟨w6.heap.size, 2, none⟩ = some (.int .i64 (g.set.P : Nat)) ∧ Y.cell? ⟨w6.heap.size, 3, none⟩ = some (.int .i64 (g.set.M : Nat)) ∧ Y.cell? ⟨w6.heap.size, 4, none⟩ = some (.int .u32 (g.set.S : Nat)) ∧ Y.cell? ⟨w6.heap.size, 5, none⟩ = some (.slice ga g.rows.length gc) ∧ Y.cell? ⟨w.heap.size, 1, none⟩ = some (.int .i64 (g.rows.length : Nat))) (i := 25) (oi := ⟨some 63, _, _, _, _, _⟩) (v := ?_) rfl (by decide) (by decide) (by kernel_rfl) (by kernel_rfl) (by kernel_rfl) (fun _ _ _ h => h) (.inl fun _ h => h) (Or.inl ⟨by rfl, ?hy25⟩) ⟨HG.out _ HB9.out, fun _ => trivial, fun _ => trivial⟩ ?hr25
      case hy25 => (intro w' hSw; (try dsimp only at hSw); go_simp <;> (with_reducible rfl))
      (try simp only [Act.put, List.setIfInBounds_toArray, List.set_cons_zero, List.set_cons_succ])
      refine wpAnyL_take (T := fun Y => Y.cell? ⟨w6.heap.size, 0, none⟩ = some (.int .i64 (g.base : Nat)) ∧ Y.cell? ⟨w6.heap.size, 1, none⟩ = some (.int .i64 (g.set.H : Nat)) ∧ Y.cell? ⟨w6.heap.size, 2, none⟩ = some (.int .i64 (g.set.P : Nat)) ∧ Y.cell? ⟨w6.heap.size, 3, none⟩ = some (.int .i64 (g.set.M : Nat)) ∧ Y.cell? ⟨w6.heap.size, 4, none⟩ = some (.int .u32 (g.set.S : Nat)) ∧ Y.cell? ⟨w6.heap.size, 5, none⟩ = some (.slice ga g.rows.length gc) ∧ Y.cell? ⟨w.heap.size, 1, none⟩ = some (.int .i64 (g.rows.length : Nat))) (i := 26) (oi := ⟨some 64, _, _, _, _, _⟩) (v := ?_) rfl (by decide) (by decide) (by kernel_rfl) (by kernel_rfl) (by kernel_rfl) (fun _ _ _ h => h) (.inl fun _ h => h) (Or.inl ⟨by rfl, ?hy26⟩) ⟨HG.out _ HB9.out, fun _ => trivial, fun _ => trivial⟩ ?hr26
      case hy26 => (intro w' hSw; (try dsimp only at hSw); go_simp <;> (with_reducible rfl))
      (try simp only [Act.put, List.setIfInBounds_toArray, List.set_cons_zero, List.set_cons_succ])
      have hx9 := setRow_heap w9 (w.heap.size + 1) _ #[.int .i64 (g.base : Nat), .int .i64 (g.set.H : Nat), .int .i64 (g.set.P : Nat), .int .i64 (g.set.M : Nat), .int .u32 (g.set.S : Nat), .slice ga g.rows.length gc] _ _ HE9.out
      have hxu : Upd (fun k => k = w.heap.size + 1) w9 (w9.setRow (w.heap.size + 1) #[.int .i64 (g.base : Nat), .int .i64 (g.set.H : Nat), .int .i64 (g.set.P : Nat), .int .i64 (g.set.M : Nat), .int .u32 (g.set.S : Nat), .slice ga g.rows.length gc]) := ⟨rfl, rfl, rfl, by simp, fun k _ hn => setRow_other _ _ _ _ hn⟩
      refine wpAnyL_one (i := 27) (o := ⟨none, _, _, _, _, _⟩) (by kernel_rfl) rfl (fun K hK => ?_)
      rw [if_pos (by rfl)]
      refine wp_store_row 103 (.tmp 6) (.tmp 38) rfl (w.heap.size + 1) #[.int .i64 (g.base : Nat), .int .i64 (g.set.H : Nat), .int .i64 (g.set.P : Nat), .int .i64 (g.set.M : Nat), .int .u32 (g.set.S : Nat), .slice ga g.rows.length gc] rfl rfl 103 _ HE9.out (by kernel_rfl) rfl (by simp [Value.oneCell']) ?_
      obtain ⟨X, hX⟩ : ∃ X, w9.setRow (w.heap.size + 1) #[.int .i64 (g.base : Nat), .int .i64 (g.set.H : Nat), .int .i64 (g.set.P : Nat), .int .i64 (g.set.M : Nat), .int .u32 (g.set.S : Nat), .slice ga g.rows.length gc] = X := ⟨_, rfl⟩
      rw [hX] at hx9 hxu ⊢
      have HSX := Lib.hid (HB9.out.trans hxu fun i e => .inl e)
      refine hK.out _ _ ⟨HG.out _ HSX.out, fun _ => trivial, fun _ => trivial⟩ ?_
      clear hK K
      (try simp only [Act.put, List.setIfInBounds_toArray, List.set_cons_zero, List.set_cons_succ])
      refine wpAnyL_one (i := 28) (o := ⟨some 7, _, _, _, _, _⟩) (by kernel_rfl) rfl (fun K hK => ?_)
      go_simp
      refine hK.out _ _ ⟨HG.out _ HSX.out, fun _ => trivial, fun _ => trivial⟩ ?_
      clear hK K
      (try simp only [Act.put, List.setIfInBounds_toArray, List.set_cons_zero, List.set_cons_succ])
      refine wpAnyL_done (by kernel_rfl) (NoPanic.normal ?_) _
      have x0 : X.cell? ⟨w.heap.size + 1, 0, none⟩ = some (.int .i64 (g.base : Nat)) := by rw [cell_of_row _ _ _ _ _ _ hx9]; rfl
      have x1 : X.cell? ⟨w.heap.size + 1, 1, none⟩ = some (.int .i64 (g.set.H : Nat)) := by rw [cell_of_row _ _ _ _ _ _ hx9]; rfl
      have x2 : X.cell? ⟨w.heap.size + 1, 2, none⟩ = some (.int .i64 (g.set.P : Nat)) := by rw [cell_of_row _ _ _ _ _ _ hx9]; rfl
      have x3 : X.cell? ⟨w.heap.size + 1, 3, none⟩ = some (.int .i64 (g.set.M : Nat)) := by rw [cell_of_row _ _ _ _ _ _ hx9]; rfl
      have x4 : X.cell? ⟨w.heap.size + 1, 4, none⟩ = some (.int .u32 (g.set.S : Nat)) := by rw [cell_of_row _ _ _ _ _ _ hx9]; rfl
      have x5 : X.cell? ⟨w.heap.size + 1, 5, none⟩ = some (.slice ga g.rows.length gc) := by rw [cell_of_row _ _ _ _ _ _ hx9]; rfl
      have hbs := HBS.out
      have hz1 := HZ1.out
      have hb9 : Below W1.heap.size W1 w9 := bl_trans HB7.out HBL.out
      have hbX : Below w.heap.size w X := (bl_trans HB1.out hb9).trans (hxu.below (fun i e => by have : i = w.heap.size + 1 := e; omega) (by have := hb9.size; omega))
      have hw6 : w6.heap.size ≤ w9.heap.size := Nat.le_trans HB67.out.size HBL.out.size
      have hst : Stays (fun k => w5.heap.size ≤ k ∧ k < w6.heap.size) w6 X := ⟨fun k hk => by
        rw [hxu.block k (by omega) (fun e => by have : k = w.heap.size + 1 := e; omega), HBL.out.block k (by have := HB67.out.size; omega), HB67.out.block k hk.2], Nat.le_trans hw6 hxu.size⟩
      have hgr : GrOk (fun k => w.heap.size ≤ k ∧ k < X.heap.size) X ⟨ga, g.rows.length, gc, g⟩ := ⟨rfl, ⟨hgl, hgm⟩, (HL.out.stays hst).mono (fun k hk => by have := hxu.size; omega) (fun k hk => hk.2)⟩
      clear hx9 hxu hbs hz1 hb9 hw6 hst
      go_wp2
      refine bodyPost_ret (v := .tuple #[.agg #[.int .i64 (g.base : Nat), .int .i64 (g.set.H : Nat), .int .i64 (g.set.P : Nat), .int .i64 (g.set.M : Nat), .int .u32 (g.set.S : Nat), .slice ga g.rows.length gc], .bool true]) (by simp [results, Tryz.results69, go_sem, x0, x1, x2, x3, x4, x5]) rfl ⟨ga, gc, rfl, hgr, hbX⟩
end Go.Proofs.YtbhfbdcmamodcaaGreatDoor
namespace Go.Proofs.YtbhfbdcmamodcaaGreatDoor
open Go.RowKit Go.Maps TrMath FrMath PackMath SumMath
structure OS (W6 W : World) (B2 : Nat) (lv0 gv0 lv gv : Value) (L : List Link) (G : List GrE) : Prop where
  upd : Upd (fun k => lv0.ownBlock = some k ∨ gv0.ownBlock = some k) W6 W
  l : OwnX 149 3 linkV W B2 lv L
  g : OwnX 103 6 graphC W B2 gv G
  ne : ∀ k, lv.ownBlock = some k → gv.ownBlock ≠ some k
  la : ∀ k, lv.ownBlock = some k → lv0.ownBlock = some k ∨ W6.heap.size ≤ k
  ga : ∀ k, gv.ownBlock = some k → gv0.ownBlock = some k ∨ W6.heap.size ≤ k
section
variable {W6 W Y : World} {B2 : Nat} {lv0 gv0 lv gv : Value} {L : List Link} {G : List GrE}
theorem OS.below (h : OS W6 W B2 lv0 gv0 lv gv L G) (hb : Below W.heap.size W Y) : OS W6 Y B2 lv0 gv0 lv gv L G :=
  ⟨h.upd.thenB hb, h.l.below hb, h.g.below hb, h.ne, h.la, h.ga⟩
theorem OS.alloc (h : OS W6 W B2 lv0 gv0 lv gv L G) (o : Obj) : OS W6 (W.alloc o) B2 lv0 gv0 lv gv L G := h.below (bl_alloc (Below.refl _ _) o)
theorem OS.drew (h : OS W6 W B2 lv0 gv0 lv gv L G) : OS W6 W.drew B2 lv0 gv0 lv gv L G := h.below (bl_drew (Below.refl _ _))
theorem OS.pushL {gg cap : Nat} {y : Link} (h : OS W6 W B2 lv0 gv0 lv gv L G) (hown : Y.ownsRow B2 149 3 (.slice (some ⟨gg, 0, none⟩) (L.length + 1) cap) (L.length + 1) (L.flatMap linkV ++ linkV y)) (hg : W.grownBy Y lv.ownBlock) (hat : lv.ownBlock = some gg ∨ gg = W.heap.size) :
    OS W6 Y B2 lv0 gv0 (.slice (some ⟨gg, 0, none⟩) (L.length + 1) cap) gv (L ++ [y]) G := by
  have hz := h.upd.size
  have key : ∀ k, (Value.slice (some ⟨gg, 0, none⟩) (L.length + 1) cap).ownBlock = some k → k = gg := fun k e => by simp [Value.ownBlock] at e; omega
  refine ⟨h.upd.grown hg fun k e => (h.la k e).imp .inl id, OwnX.push (enc := linkV) (m := [y]) hown rfl (by simp), h.g.stays fun k e => hg.block k (h.g.lt k e).2 (fun e2 => h.ne k e2.symm e), fun k e e2 => ?_, fun k e => ?_, h.ga⟩
  · obtain rfl := key k e
    rcases hat with h1 | h1
    · exact h.ne _ h1 e2
    · have := (h.g.lt _ e2).2; omega
  · obtain rfl := key k e
    rcases hat with h1 | h1
    · exact h.la _ h1
    · exact .inr (by omega)
theorem OS.pushG {gg cap : Nat} {y : GrE} (h : OS W6 W B2 lv0 gv0 lv gv L G) (hown : Y.ownsRow B2 103 6 (.slice (some ⟨gg, 0, none⟩) (G.length + 1) cap) (G.length + 1) (G.flatMap graphC ++ graphC y)) (hg : W.grownBy Y gv.ownBlock) (hat : gv.ownBlock = some gg ∨ gg = W.heap.size) :
    OS W6 Y B2 lv0 gv0 lv (.slice (some ⟨gg, 0, none⟩) (G.length + 1) cap) L (G ++ [y]) := by
  have hz := h.upd.size
  have key : ∀ k, (Value.slice (some ⟨gg, 0, none⟩) (G.length + 1) cap).ownBlock = some k → k = gg := fun k e => by simp [Value.ownBlock] at e; omega
  refine ⟨h.upd.grown hg fun k e => (h.ga k e).imp .inr id, h.l.stays fun k e => hg.block k (h.l.lt k e).2 (fun e2 => h.ne k e e2.symm), OwnX.push (enc := graphC) (m := [y]) hown rfl (by simp), fun k e e2 => ?_, h.la, fun k e => ?_⟩
  · obtain rfl := key k e2
    rcases hat with h1 | h1
    · exact h.ne _ e h1
    · have := (h.l.lt _ e).2; omega
  · obtain rfl := key k e
    rcases hat with h1 | h1
    · exact h.ga _ h1
    · exact .inr (by omega)
end
def SrcAt (W : World) (b : Nat) (xs : List Value) : Prop := b < W.heap.size ∧ ∀ (j : Nat) u, xs[j]? = some u → W.cell? ((⟨b, 0, none⟩ : Addr).add j) = some u
theorem SrcAt.new (W : World) (xs : List Value) (t : TypeId) : SrcAt (W.alloc (.cells xs.toArray t)) W.heap.size xs := ⟨by simp, cells_new W xs t rfl⟩
theorem addr_j (b j : Nat) : (⟨b, 0, none⟩ : Addr).add j = ⟨b, 0 + j, none⟩ := by unfold Addr.add; split <;> simp_all
theorem SrcAt.keep {W Y : World} {b : Nat} {xs : List Value} (h : SrcAt W b xs) (hb : Y.heap[b]? = W.heap[b]?) (hz : W.heap.size ≤ Y.heap.size) : SrcAt Y b xs := ⟨Nat.lt_of_lt_of_le h.1 hz, fun j u hj => by
  have h1 := h.2 j u hj
  rw [addr_j] at h1 ⊢
  rw [World.cell?_of_block hb]
  exact h1⟩
theorem SrcAt.alloc {W : World} {b : Nat} {xs : List Value} (h : SrcAt W b xs) (o : Obj) : SrcAt (W.alloc o) b xs := h.keep (Below.heap_alloc _ _ _ h.1) (by simp)
theorem SrcAt.grown {W Y : World} {b : Nat} {xs : List Value} {r : Option Nat} (h : SrcAt W b xs) (hg : W.grownBy Y r) (hr : r ≠ some b) : SrcAt Y b xs := h.keep (hg.block b h.1 (Ne.symm hr)) hg.size
theorem OwnX.raise {α : Type} {E : TypeId} {k : Nat} {enc : α → List Value} {w : World} {B C : Nat} {v : Value} {l : List α} (h : OwnX E k enc w B v l) (hC : ∀ g, v.ownBlock = some g → C ≤ g) : OwnX E k enc w C v l := by
  obtain ⟨h1, h2⟩ := h
  refine ⟨h1, ?_⟩
  rcases h2 with h2 | ⟨g, cap, cur, rfl, hb, r⟩
  · exact .inl h2
  · exact .inr ⟨g, cap, cur, rfl, hC g rfl, r⟩
structure OpenRel (w W2 wr : World) (p : Nat) (L : List Link) (gs : List GraphP) (k : Nat) : Prop where
  ex : ∃ I R, IndexAt wr w.heap.size I R ∧ I.disk = p ∧ I.links = L.take k ∧ I.graphs.map GrE.g = gs.take k ∧ ∀ j, I.foot w.heap.size R j → j = w.heap.size ∨ W2.heap.size ≤ j
  keep : Upd (fun j => j = w.heap.size ∨ W2.heap.size ≤ j) W2 wr
theorem own_i {x : Nat} {I : IndexS} {k : Nat} : k ∈ I.own x ↔ k = x ∨ I.lv.ownBlock = some k ∨ I.gv.ownBlock = some k := by
  unfold IndexS.own
  rw [List.mem_cons, List.mem_append, Option.mem_toList, Option.mem_toList]
theorem OpenRel.push {w W2 wr W5 W6 W X : World} {p k : Nat} {L : List Link} {gs : List GraphP} {I : IndexS} {R : Foot} {lv gv : Value} {e : GrE} {y : Link} (hx : w.heap.size < W2.heap.size) (hk : Upd (fun j => j = w.heap.size ∨ W2.heap.size ≤ j) W2 wr)
    (hI : IndexAt wr w.heap.size I R) (hd : I.disk = p) (hl : I.links = L.take k) (hg : I.graphs.map GrE.g = gs.take k) (hf : ∀ j, I.foot w.heap.size R j → j = w.heap.size ∨ W2.heap.size ≤ j)
    (h5 : Below wr.heap.size wr W5) (he : GrOk (fun j => wr.heap.size ≤ j ∧ j < W5.heap.size) W5 e) (h6 : Below W5.heap.size W5 W6) (hO : OS W6 W W2.heap.size I.lv I.gv lv gv (I.links ++ [y]) (I.graphs ++ [e]))
    (hX : X = (W.setCell ⟨w.heap.size, 1, none⟩ lv).setCell ⟨w.heap.size, 2, none⟩ gv) (hy : I.links ++ [y] = L.take (k + 1)) (hge : gs.take k ++ [e.g] = gs.take (k + 1)) : OpenRel w W2 X p L gs (k + 1) := by
  subst hX
  have hz2 := hk.size; have hz5 := h5.size; have hz6 := h6.size; have hzW := hO.upd.size
  have hxl : w.heap.size < wr.heap.size := by omega
  have hnl : ∀ j, I.lv.ownBlock = some j → j ≠ w.heap.size ∧ W2.heap.size ≤ j ∧ j < wr.heap.size := fun j e => by
    have h1 := hf j (.inl (xown_lv e))
    have h2 := (hI.lv.lt j e).2
    have h3 := (List.nodup_cons.1 hI.apart).1
    have h4 : j ≠ w.heap.size := fun e2 => h3 (List.mem_append_left _ (by rw [← e2]; simp [e]))
    omega
  have hng : ∀ j, I.gv.ownBlock = some j → j ≠ w.heap.size ∧ W2.heap.size ≤ j ∧ j < wr.heap.size := fun j e => by
    have h1 := hf j (.inl (xown_gv e))
    have h2 := (hI.gv.lt j e).2
    have h3 := (List.nodup_cons.1 hI.apart).1
    have h4 : j ≠ w.heap.size := fun e2 => h3 (List.mem_append_right _ (by rw [← e2]; simp [e]))
    omega
  have hbW : W.heap[w.heap.size]? = some (.cells #[.pointer (some ⟨I.disk, 0, none⟩), I.lv, I.gv] 97 (0, 0)) := by
    rw [hO.upd.block _ (by omega) (fun e => by rcases e with e | e; exact (hnl _ e).1 rfl; exact (hng _ e).1 rfl), h6.block _ (by omega), h5.block _ hxl]
    exact hI.box
  have hb1 := heap_setCell_same W w.heap.size 1 _ _ lv hbW
  have hb2 := heap_setCell_same _ w.heap.size 2 _ _ gv hb1
  have hst : ∀ j, j ≠ w.heap.size → ((W.setCell ⟨w.heap.size, 1, none⟩ lv).setCell ⟨w.heap.size, 2, none⟩ gv).heap[j]? = W.heap[j]? := fun j hj => by rw [heap_setCell_other _ _ _ _ hj, heap_setCell_other _ _ _ _ hj]
  have hsz : ((W.setCell ⟨w.heap.size, 1, none⟩ lv).setCell ⟨w.heap.size, 2, none⟩ gv).heap.size = W.heap.size := by simp [World.setCell]
  obtain ⟨X, hX⟩ : ∃ X, (W.setCell ⟨w.heap.size, 1, none⟩ lv).setCell ⟨w.heap.size, 2, none⟩ gv = X := ⟨_, rfl⟩
  have hupX : Upd (fun j => j = w.heap.size) W X := by rw [← hX]; exact ((Upd.refl (fun j => j = w.heap.size) W).set _ 1 lv (.inl rfl)).set _ 2 gv (.inl rfl)
  rw [hX] at hb2 hst hsz ⊢
  have hlX : ∀ j, lv.ownBlock = some j → j ≠ w.heap.size ∧ W2.heap.size ≤ j ∧ j < X.heap.size ∧ ¬ R j ∧ ¬ (wr.heap.size ≤ j ∧ j < W5.heap.size) := fun j e => by
    obtain ⟨a1, a2⟩ := hO.l.lt j e
    refine ⟨by omega, a1, by omega, fun e2 => ?_, fun e2 => ?_⟩
    · rcases hO.la j e with e3 | e3
      · exact hI.off j (xown_lv e3) e2
      · have := hI.lt j e2; omega
    · rcases hO.la j e with e3 | e3
      · have := hnl j e3; omega
      · omega
  have hgX : ∀ j, gv.ownBlock = some j → j ≠ w.heap.size ∧ W2.heap.size ≤ j ∧ j < X.heap.size ∧ ¬ R j ∧ ¬ (wr.heap.size ≤ j ∧ j < W5.heap.size) := fun j e => by
    obtain ⟨a1, a2⟩ := hO.g.lt j e
    refine ⟨by omega, a1, by omega, fun e2 => ?_, fun e2 => ?_⟩
    · rcases hO.ga j e with e3 | e3
      · exact hI.off j (xown_gv e3) e2
      · have := hI.lt j e2; omega
    · rcases hO.ga j e with e3 | e3
      · have := hng j e3; omega
      · omega
  have hWr : ∀ j, j < W6.heap.size → j ≠ w.heap.size → I.lv.ownBlock ≠ some j → I.gv.ownBlock ≠ some j → X.heap[j]? = W6.heap[j]? := fun j h1 h2 h3 h4 => by
    rw [hst j h2]
    exact hO.upd.block j h1 (fun e => e.elim h3 h4)
  have hstR : Stays R wr X := ⟨fun j hj => by
    have h1 := hI.lt j hj
    rw [hWr j (by omega) (fun e => hI.off j (own_i.2 (.inl e)) hj) (fun e => hI.off j (own_i.2 (.inr (.inl e))) hj) (fun e => hI.off j (own_i.2 (.inr (.inr e))) hj), h6.block j (by omega), h5.block j h1], by omega⟩
  have hst5 : Stays (fun j => wr.heap.size ≤ j ∧ j < W5.heap.size) W5 X := ⟨fun j hj => by
    rw [hWr j (by omega) (by omega) (fun e => by have := hnl j e; omega) (fun e => by have := hng j e; omega), h6.block j hj.2], by omega⟩
  have hRX : ∀ j, (R.or fun j => wr.heap.size ≤ j ∧ j < W5.heap.size) j → j < X.heap.size := fun j hj => by
    rcases hj with hj | hj
    · have := hI.lt j hj; omega
    · omega
  refine ⟨⟨⟨I.disk, lv, gv, I.links ++ [y], I.graphs ++ [e]⟩, R.or fun j => wr.heap.size ≤ j ∧ j < W5.heap.size, ⟨hb2, (hO.l.stays fun j e => hst j (hlX j e).1).mono (Nat.zero_le _), (hO.g.stays fun j e => hst j (hgX j e).1).mono (Nat.zero_le _), fun e' he' => ?_, hRX, ?_, ?_⟩, hd, hy, ?_, ?_⟩, ?_⟩
  · rcases List.mem_append.1 he' with h1 | h1
    · exact ((hI.rows e' h1).stays hstR).mono (fun j hj => .inl hj) hRX
    · rw [List.mem_singleton.1 h1]
      exact (he.stays hst5).mono (fun j hj => .inr hj) hRX
  · show (w.heap.size :: (lv.ownBlock.toList ++ gv.ownBlock.toList)).Nodup
    rw [List.nodup_cons]
    refine ⟨fun hm => ?_, ?_⟩
    · rcases List.mem_append.1 hm with hm | hm
      · exact (hlX _ (Option.mem_toList.1 hm)).1 rfl
      · exact (hgX _ (Option.mem_toList.1 hm)).1 rfl
    · rw [List.nodup_append]
      refine ⟨by cases lv.ownBlock <;> simp, by cases gv.ownBlock <;> simp, fun a ha b hb e => ?_⟩
      subst e
      exact hO.ne a (Option.mem_toList.1 ha) (Option.mem_toList.1 hb)
  · intro j hj hj2
    rcases own_i.1 hj with e2 | e2 | e2
    · subst e2
      rcases hj2 with h1 | h1
      · exact hI.off _ xown_x h1
      · omega
    · obtain ⟨_, _, _, a, b⟩ := hlX j e2
      exact hj2.elim a b
    · obtain ⟨_, _, _, a, b⟩ := hgX j e2
      exact hj2.elim a b
  · show (I.graphs ++ [e]).map GrE.g = _
    rw [List.map_append, hg]
    exact hge
  · intro j hj
    rcases hj with hj | hj | hj
    · rcases own_i.1 hj with e2 | e2 | e2
      · exact .inl e2
      · exact .inr (hlX j e2).2.1
      · exact .inr (hgX j e2).2.1
    · exact hf j (.inr hj)
    · exact .inr (by omega)
  · have h1 : Upd (fun j => j = w.heap.size ∨ W2.heap.size ≤ j) W2 W6 := (hk.thenB h5).thenB h6
    have h2 := h1.trans (hO.upd.mono (G := fun j => j = w.heap.size ∨ W2.heap.size ≤ j) fun j hj => by
      rcases hj with e | e
      · exact .inr (hnl j e).2.1
      · exact .inr (hng j e).2.1) fun j hj => .inl hj
    exact h2.trans (hupX.mono (G := fun j => j = w.heap.size ∨ W2.heap.size ≤ j) fun j hj => .inl hj) fun j hj => .inl hj
end Go.Proofs.YtbhfbdcmamodcaaGreatDoor
