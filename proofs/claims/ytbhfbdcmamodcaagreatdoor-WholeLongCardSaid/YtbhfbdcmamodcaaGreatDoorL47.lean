/- The whole: Update, where a layer is added; The whole: find; The whole: Row; The whole: what stands while the index is read from its disk. -/
import Derived.Test.YtbhfbdcmamodcaaGreatDoorL39
import Derived.Test.YtbhfbdcmamodcaaGreatDoorL46
import Derived.Deep.RegionHeld3
set_option linter.unusedVariables false
set_option linter.unusedSimpArgs false
namespace Go.Proofs.YtbhfbdcmamodcaaGreatDoor
open Go.RowKit Go.Maps TrMath FrMath PackMath SumMath
set_option maxHeartbeats 4000000 in
set_option maxRecDepth 100000 in
theorem xUpdate {w : World} {s x p q : Nat} {S : StoreS} {I : IndexS} {R F : Foot} {v : View} (h : StoreAt w s S) (ts : List Ents) (cs : List ComP) (hts : S.trees.map Prod.snd = ts) (hcs : S.commits.map Prod.snd = cs) (hg : GoodS ts cs) (hI : IdxOk w x p I R F v q) (Q : SetP) (hQ : chkR Q.H Q.P Q.M = 0) (hQs : Q.S < 4294967296)
    (k0 : Nat) (hk0 : totalL I.links = k0) (ht : k0 < cs.length) (hgen : genAll I.graphs = gensN cs k0) (hl7 : I.links.length < 8) (hg8 : I.graphs.length ≤ 8) (hgood : GoodGraph (allG Q ts cs k0)) (htext : (graphB (allG Q ts cs k0)).length ≤ 524288) (n : Nat) (hn : nextN I.links = n) (hn1 : n < 100) (hgc : GoodChain (I.links ++ [linkOf n (allG Q ts cs k0)])) :
    Calls Tryz.prog 12 #[.pointer (some ⟨x, 0, none⟩), srcV s, .agg #[.int .i64 (Q.H : Nat), .int .i64 (Q.P : Nat), .int .i64 (Q.M : Nat), .int .u32 (Q.S : Nat)]] w fun e w' => e = .returned (.int .i64 0) ∧
      UpTo w w' x p F R ((layV v n (allG Q ts cs k0) (I.links ++ [linkOf n (allG Q ts cs k0)])).filter fun y => keepN (I.links ++ [linkOf n (allG Q ts cs k0)]) y.1) (I.links ++ [linkOf n (allG Q ts cs k0)]) (I.graphs.map GrE.g ++ [allG Q ts cs k0]) := by
  obtain ⟨W1, hW1⟩ : ∃ W1, w.alloc (.cells #[.int .i64 (Q.H : Nat), .int .i64 (Q.P : Nat), .int .i64 (Q.M : Nat), .int .u32 (Q.S : Nat)] 49) = W1 := ⟨_, rfl⟩
  have hb1 : Below w.heap.size w W1 := by rw [← hW1]; exact bl_alloc (Below.refl _ w) _
  have hs1 : W1.heap[w.heap.size]? = some (.cells #[.int .i64 (Q.H : Nat), .int .i64 (Q.P : Nat), .int .i64 (Q.M : Nat), .int .u32 (Q.S : Nat)] 49 (0, 0)) := by rw [← hW1]; exact heap_alloc_new _ _
  have hlen : S.commits.length = cs.length := by rw [← hcs, List.length_map]
  have hN := hg.few
  have hI1 := hI.below hb1
  have hF1 := hI.disk.lt
  have hx1 := hI.xlt
  obtain ⟨la, lc, hlv, hLc, _, _, _, _⟩ := hI1.idx.lv.sl
  obtain ⟨ga, gc, hgv, hGc, hgo⟩ := hI1.idx.gv.sl
  have hgaF : ∀ b off, ga = some ⟨b, off, none⟩ → ¬ F b ∧ b < W1.heap.size ∧ b ≠ x := fun b off e => by
    have ho : I.gv.ownBlock = some b := by rw [hgv, e]; rfl
    refine ⟨fun hF => hI.apart b hF (.inl (xown_gv ho)), (hI1.idx.gv.lt b ho).2, fun e2 => ?_⟩
    subst e2
    have := hI.idx.apart
    unfold IndexS.own at this
    rw [List.nodup_cons] at this
    exact this.1 (List.mem_append.2 (.inr (by rw [ho]; simp)))
  have hgenl : (genAll I.graphs).length = k0 := by rw [hgen, gensN_len]
  have HCl := Lib.hid (fun W (hW : Below W1.heap.size W1 W) => xReady ((h.below hb1).below hW) (hI1.idx.below hW) Q hQ (by have := hI.l8; omega) (by omega) (by omega))
  have HCs := Lib.hid (show ∀ W, Below W1.heap.size W1 W → Calls Tryz.prog 15 #[.pointer (some ⟨s, 0, none⟩)] W fun e w' => e = .returned (.int .i64 (cs.length : Nat)) ∧ w' = W from fun W hW => by
    have := sCommits ((h.below hb1).below hW)
    rwa [hlen] at this)
  have HLn := Lib.hid (show ∀ W, Below W1.heap.size W1 W → Calls Tryz.prog 16 #[.pointer (some ⟨x, 0, none⟩)] W fun e w' => e = .returned (.int .i64 (k0 : Nat)) ∧ Below W.heap.size W w' from fun W hW => by
    have := xLen (hI1.idx.below hW) (by have := hI.l8; omega) (by omega)
    rwa [hk0] at this)
  have HGn := Lib.hid (show ∀ W, Below W1.heap.size W1 W → Calls Tryz.prog 43 #[.pointer (some ⟨x, 0, none⟩)] W fun e w' => ∃ ka kc, e = .returned (.slice ka k0 kc) ∧ CellsAt w' ka ((gensN cs k0).flatMap natV) ∧ Below W.heap.size W w' from fun W hW => by
    refine (xGens (hI1.idx.below hW) (by omega) (by omega)).mono fun e w' ⟨v2, h1, h2, h3⟩ => ?_
    obtain ⟨ka, kc, e1, e2, _, _, _, _⟩ := h2.sl
    rw [hgenl] at e1
    rw [hgen] at e2
    subst e1
    exact ⟨ka, kc, h1, e2, h3⟩)
  have HRw := Lib.hid (show ∀ W ka kc, Below W1.heap.size W1 W → CellsAt W ka ((gensN cs k0).flatMap natV) → Calls Tryz.prog 42 #[srcV s, .agg #[.int .i64 (Q.H : Nat), .int .i64 (Q.P : Nat), .int .i64 (Q.M : Nat), .int .u32 (Q.S : Nat)], .slice ka k0 kc] W fun e w' => ∃ a c Rn, e = .returned (.slice a (allG Q ts cs k0).rows.length c) ∧ RowsK w' Rn (.slice a (allG Q ts cs k0).rows.length c) (allG Q ts cs k0).rows ∧ (∀ k, Rn k → W1.heap.size ≤ k) ∧ Below W.heap.size W w' from fun W ka kc hW hK => by
    refine (xRows ((h.below hb1).below hW) ts cs hts hcs hg Q hQs k0 (by omega) ka kc hK).mono fun e w' ⟨va, Rn, h1, h2, h3, h4⟩ => ?_
    obtain ⟨a, c, e1, _, _, _⟩ := h2.at
    subst e1
    exact ⟨a, c, Rn, h1, h2, fun k hk => Nat.le_trans hW.size (h3 k hk), h4⟩)
  have HLy := Lib.hid (show ∀ W a c Rn, Below W1.heap.size W1 W → RowsK W Rn (.slice a (allG Q ts cs k0).rows.length c) (allG Q ts cs k0).rows → (∀ k, Rn k → W1.heap.size ≤ k) →
      Calls Tryz.prog 41 #[.pointer (some ⟨x, 0, none⟩), .slice la I.links.length lc, .slice ga I.graphs.length gc, .agg #[.int .i64 (k0 : Nat), .int .i64 (Q.H : Nat), .int .i64 (Q.P : Nat), .int .i64 (Q.M : Nat), .int .u32 (Q.S : Nat), .slice a (allG Q ts cs k0).rows.length c]] W fun e w' => e = .returned (.int .i64 0) ∧
      UpTo w w' x p F R ((layV v n (allG Q ts cs k0) (I.links ++ [linkOf n (allG Q ts cs k0)])).filter fun y => keepN (I.links ++ [linkOf n (allG Q ts cs k0)]) y.1) (I.links ++ [linkOf n (allG Q ts cs k0)]) (I.graphs.map GrE.g ++ [allG Q ts cs k0]) ∧ w'.heap[w.heap.size]? = W1.heap[w.heap.size]? from fun W a c Rn hW hK hRn =>
    (xLayRows hI1 hW la lc I.links hLc ga gc I.graphs hGc hg8 hgaF hI1.idx.rows a c (allG Q ts cs k0) hK hRn hgood htext n hn hn1 (by omega) hgc).mono fun e w' ⟨h1, h2⟩ => ⟨h1, h2.after hb1, h2.upd.block _ (by rw [← hW1]; simp) fun e2 => by
      rcases e2 with e2 | e2
      · have := hF1 _ e2; omega
      · omega⟩)
  have hd : ((cs.length : Int) == (k0 : Int)) = false := by rw [beq_eq_false_iff_ne]; omega
  have hd8 : decide ((8 : Int) ≤ (I.links.length : Int)) = false := by rw [decide_eq_false_iff_not]; omega
  have K0 := Lib.hid (show ∀ W : World, W.heap[w.heap.size]? = W1.heap[w.heap.size]? → W.cell? ⟨w.heap.size, 0, none⟩ = some (.int .i64 (Q.H : Nat)) ∧ W.cell? ⟨w.heap.size, 1, none⟩ = some (.int .i64 (Q.P : Nat)) ∧ W.cell? ⟨w.heap.size, 2, none⟩ = some (.int .i64 (Q.M : Nat)) ∧ W.cell? ⟨w.heap.size, 3, none⟩ = some (.int .u32 (Q.S : Nat)) from fun W hW => by
    rw [hs1] at hW
    exact ⟨by rw [cell_of_row _ _ _ _ _ _ hW]; rfl, by rw [cell_of_row _ _ _ _ _ _ hW]; rfl, by rw [cell_of_row _ _ _ _ _ _ hW]; rfl, by rw [cell_of_row _ _ _ _ _ _ hW]; rfl⟩)
  have hz1 : w.heap.size < W1.heap.size := by rw [← hW1]; simp
  have KB := Lib.hid (show ∀ W : World, Below W1.heap.size W1 W → W.cell? ⟨w.heap.size, 0, none⟩ = some (.int .i64 (Q.H : Nat)) ∧ W.cell? ⟨w.heap.size, 1, none⟩ = some (.int .i64 (Q.P : Nat)) ∧ W.cell? ⟨w.heap.size, 2, none⟩ = some (.int .i64 (Q.M : Nat)) ∧ W.cell? ⟨w.heap.size, 3, none⟩ = some (.int .u32 (Q.S : Nat)) from fun W hW => K0.out W (hW.block _ hz1))
  have HX := Lib.hid (show ∀ W, Below W1.heap.size W1 W → W.cell? ⟨x, 1, none⟩ = some (.slice la I.links.length lc) ∧ W.cell? ⟨x, 2, none⟩ = some (.slice ga I.graphs.length gc) from fun W hW =>
    ⟨bl_cell hW (by rw [cell_of_row _ _ _ _ _ _ hI1.idx.box, ← hlv]; rfl), bl_cell hW (by rw [cell_of_row _ _ _ _ _ _ hI1.idx.box, ← hgv]; rfl)⟩)
  have hm1 := mCommits
  have HW1 := Lib.hid hW1; have HB1 := Lib.hid (Below.refl W1.heap.size W1)
  obtain ⟨k0c, k1c, k2c, k3c⟩ := KB.out W1 HB1.out
  have HNN := Lib.hid hN
  clear h hts hcs hg hI hI1 hQ hQs ht hgood htext hn hgc hW1 hb1 hs1 hlen hN hgen hgenl hgaF hgo hGc hLc hlv hgv hk0 hF1 hx1 hz1
  generalize (allG Q ts cs k0) = g at *
  unfold srcV at HCl HRw ⊢
  go_enter Tryz.func12, Tryz.ntmps12
  go_wp2_with fail
  rw [HW1.out]
  go_wp2_with fail
  (with_reducible refine (HCl.out _ HB1.out).mono ?_)
  rintro e w2 ⟨rfl, hb⟩
  have HB2 := Lib.hid hb
  clear hb
  go_wp2_with fail
  (with_reducible refine (HCs.out _ HB2.out).mono ?_)
  rintro e w3 ⟨rfl, rfl⟩
  go_wp2_with fail
  (with_reducible refine (HLn.out _ HB2.out).mono ?_)
  rintro e w4 ⟨rfl, hb⟩
  have HB4 := Lib.hid (bl_trans HB2.out hb)
  clear hb k0c k1c k2c k3c
  obtain ⟨x1, x2⟩ := HX.out w4 HB4.out
  go_wp2_with fail
  have HBD := Lib.hid (bl_drew HB4.out)
  refine wp_region_L (z := 18) (y := 18) (S3 := fun _ => True) (S1 := fun w' => w'.cell? ⟨w.heap.size, 0, none⟩ = some (.int .i64 (Q.H : Nat)) ∧ w'.cell? ⟨w.heap.size, 1, none⟩ = some (.int .i64 (Q.P : Nat)) ∧ w'.cell? ⟨w.heap.size, 2, none⟩ = some (.int .i64 (Q.M : Nat)) ∧ w'.cell? ⟨w.heap.size, 3, none⟩ = some (.int .u32 (Q.S : Nat)))
    (S2 := fun w' => w'.cell? ⟨x, 1, none⟩ = some (.slice la I.links.length lc) ∧ w'.cell? ⟨x, 2, none⟩ = some (.slice ga I.graphs.length gc)) (by kernel_rfl) ?_
  refine wpAnyL_take (T := fun w' => w'.cell? ⟨w.heap.size, 0, none⟩ = some (.int .i64 (Q.H : Nat)) ∧ w'.cell? ⟨w.heap.size, 1, none⟩ = some (.int .i64 (Q.P : Nat)) ∧ w'.cell? ⟨w.heap.size, 2, none⟩ = some (.int .i64 (Q.M : Nat)) ∧ w'.cell? ⟨w.heap.size, 3, none⟩ = some (.int .u32 (Q.S : Nat))) (i := 0) (v := ?_) rfl (by decide) (by decide) (by kernel_rfl) (by kernel_rfl) (by kernel_rfl) (fun _ _ _ h => h) (.inl fun _ h => h) (Or.inl ⟨by rfl, ?hy0⟩) ⟨KB.out _ HBD.out, fun _ => HX.out _ HBD.out, fun _ => trivial⟩ ?hr0
  case hy0 => (intro w' hSw; (try dsimp only at hSw); go_simp <;> (with_reducible rfl))
  (try simp only [Act.put, List.setIfInBounds_toArray, List.set_cons_zero, List.set_cons_succ])
  refine wpAnyL_take (T := fun w' => w'.cell? ⟨w.heap.size, 0, none⟩ = some (.int .i64 (Q.H : Nat)) ∧ w'.cell? ⟨w.heap.size, 1, none⟩ = some (.int .i64 (Q.P : Nat)) ∧ w'.cell? ⟨w.heap.size, 2, none⟩ = some (.int .i64 (Q.M : Nat)) ∧ w'.cell? ⟨w.heap.size, 3, none⟩ = some (.int .u32 (Q.S : Nat))) (i := 1) (v := ?_) rfl (by decide) (by decide) (by kernel_rfl) (by kernel_rfl) (by kernel_rfl) (fun _ _ _ h => h) (.inl fun _ h => h) (Or.inl ⟨by rfl, ?hy1⟩) ⟨KB.out _ HBD.out, fun _ => HX.out _ HBD.out, fun _ => trivial⟩ ?hr1
  case hy1 => (intro w' hSw; (try dsimp only at hSw); go_simp <;> (with_reducible rfl))
  (try simp only [Act.put, List.setIfInBounds_toArray, List.set_cons_zero, List.set_cons_succ])
  refine wpAnyL_take (T := fun w' => w'.cell? ⟨w.heap.size, 0, none⟩ = some (.int .i64 (Q.H : Nat)) ∧ w'.cell? ⟨w.heap.size, 1, none⟩ = some (.int .i64 (Q.P : Nat)) ∧ w'.cell? ⟨w.heap.size, 2, none⟩ = some (.int .i64 (Q.M : Nat)) ∧ w'.cell? ⟨w.heap.size, 3, none⟩ = some (.int .u32 (Q.S : Nat))) (i := 2) (v := ?_) rfl (by decide) (by decide) (by kernel_rfl) (by kernel_rfl) (by kernel_rfl) (fun _ _ _ h => h) (.inl fun _ h => h) (Or.inl ⟨by rfl, ?hy2⟩) ⟨KB.out _ HBD.out, fun _ => HX.out _ HBD.out, fun _ => trivial⟩ ?hr2
  case hy2 => (intro w' hSw; (try dsimp only at hSw); go_simp <;> (with_reducible rfl))
  (try simp only [Act.put, List.setIfInBounds_toArray, List.set_cons_zero, List.set_cons_succ])
  refine wpAnyL_take (T := fun w' => w'.cell? ⟨w.heap.size, 0, none⟩ = some (.int .i64 (Q.H : Nat)) ∧ w'.cell? ⟨w.heap.size, 1, none⟩ = some (.int .i64 (Q.P : Nat)) ∧ w'.cell? ⟨w.heap.size, 2, none⟩ = some (.int .i64 (Q.M : Nat)) ∧ w'.cell? ⟨w.heap.size, 3, none⟩ = some (.int .u32 (Q.S : Nat))) (i := 3) (v := ?_) rfl (by decide) (by decide) (by kernel_rfl) (by kernel_rfl) (by kernel_rfl) (fun _ _ _ h => h) (.inl fun _ h => h) (Or.inl ⟨by rfl, ?hy3⟩) ⟨KB.out _ HBD.out, fun _ => HX.out _ HBD.out, fun _ => trivial⟩ ?hr3
  case hy3 => (intro w' hSw; (try dsimp only at hSw); go_simp <;> (with_reducible rfl))
  (try simp only [Act.put, List.setIfInBounds_toArray, List.set_cons_zero, List.set_cons_succ])
  refine wpAnyL_take (T := fun w' => w'.cell? ⟨x, 1, none⟩ = some (.slice la I.links.length lc) ∧ w'.cell? ⟨x, 2, none⟩ = some (.slice ga I.graphs.length gc)) (i := 4) (v := ?_) rfl (by decide) (by decide) (by kernel_rfl) (by kernel_rfl) (by kernel_rfl) (fun _ _ _ h => h) (.inr (.inl ⟨.of (by kernel_rfl), fun _ _ h => h⟩)) (Or.inl ⟨by rfl, ?hy4⟩) ⟨KB.out _ HBD.out, fun _ => HX.out _ HBD.out, fun _ => trivial⟩ ?hr4
  case hy4 => (intro w' hSw; (try dsimp only at hSw); go_simp <;> (with_reducible rfl))
  (try simp only [Act.put, List.setIfInBounds_toArray, List.set_cons_zero, List.set_cons_succ])
  refine wpAnyL_take (T := fun w' => w'.cell? ⟨w.heap.size, 0, none⟩ = some (.int .i64 (Q.H : Nat)) ∧ w'.cell? ⟨w.heap.size, 1, none⟩ = some (.int .i64 (Q.P : Nat)) ∧ w'.cell? ⟨w.heap.size, 2, none⟩ = some (.int .i64 (Q.M : Nat)) ∧ w'.cell? ⟨w.heap.size, 3, none⟩ = some (.int .u32 (Q.S : Nat))) (i := 5) (v := ?_) rfl (by decide) (by decide) (by kernel_rfl) (by kernel_rfl) (by kernel_rfl) (fun _ _ _ h => h) (.inl fun _ h => h) (Or.inl ⟨by rfl, ?hy5⟩) ⟨KB.out _ HBD.out, fun _ => HX.out _ HBD.out, fun _ => trivial⟩ ?hr5
  case hy5 => (intro w' hSw; (try dsimp only at hSw); go_simp <;> (with_reducible rfl))
  (try simp only [Act.put, List.setIfInBounds_toArray, List.set_cons_zero, List.set_cons_succ])
  refine wpAnyL_take (T := fun w' => w'.cell? ⟨w.heap.size, 0, none⟩ = some (.int .i64 (Q.H : Nat)) ∧ w'.cell? ⟨w.heap.size, 1, none⟩ = some (.int .i64 (Q.P : Nat)) ∧ w'.cell? ⟨w.heap.size, 2, none⟩ = some (.int .i64 (Q.M : Nat)) ∧ w'.cell? ⟨w.heap.size, 3, none⟩ = some (.int .u32 (Q.S : Nat))) (i := 6) (v := ?_) rfl (by decide) (by decide) (by kernel_rfl) (by kernel_rfl) (by kernel_rfl) (fun _ _ _ h => h) (.inl fun _ h => h) (Or.inl ⟨by rfl, ?hy6⟩) ⟨KB.out _ HBD.out, fun _ => HX.out _ HBD.out, fun _ => trivial⟩ ?hr6
  case hy6 => (intro w' hSw; (try dsimp only at hSw); go_simp <;> (with_reducible rfl))
  (try simp only [Act.put, List.setIfInBounds_toArray, List.set_cons_zero, List.set_cons_succ])
  refine wpAnyL_take (T := fun w' => w'.cell? ⟨w.heap.size, 0, none⟩ = some (.int .i64 (Q.H : Nat)) ∧ w'.cell? ⟨w.heap.size, 1, none⟩ = some (.int .i64 (Q.P : Nat)) ∧ w'.cell? ⟨w.heap.size, 2, none⟩ = some (.int .i64 (Q.M : Nat)) ∧ w'.cell? ⟨w.heap.size, 3, none⟩ = some (.int .u32 (Q.S : Nat))) (i := 7) (v := ?_) rfl (by decide) (by decide) (by kernel_rfl) (by kernel_rfl) (by kernel_rfl) (fun _ _ _ h => h) (.inl fun _ h => h) (Or.inl ⟨by rfl, ?hy7⟩) ⟨KB.out _ HBD.out, fun _ => HX.out _ HBD.out, fun _ => trivial⟩ ?hr7
  case hy7 => (intro w' hSw; (try dsimp only at hSw); go_simp <;> (with_reducible rfl))
  (try simp only [Act.put, List.setIfInBounds_toArray, List.set_cons_zero, List.set_cons_succ])
  refine wpAnyL_take (T := fun w' => w'.cell? ⟨x, 1, none⟩ = some (.slice la I.links.length lc) ∧ w'.cell? ⟨x, 2, none⟩ = some (.slice ga I.graphs.length gc)) (i := 8) (v := ?_) rfl (by decide) (by decide) (by kernel_rfl) (by kernel_rfl) (by kernel_rfl) (fun _ _ _ h => h) (.inr (.inl ⟨.of (by kernel_rfl), fun _ _ h => h⟩)) (Or.inl ⟨by rfl, ?hy8⟩) ⟨KB.out _ HBD.out, fun _ => HX.out _ HBD.out, fun _ => trivial⟩ ?hr8
  case hy8 => (intro w' hSw; (try dsimp only at hSw); go_simp <;> (with_reducible rfl))
  (try simp only [Act.put, List.setIfInBounds_toArray, List.set_cons_zero, List.set_cons_succ])
  refine wpAnyL_take (T := fun w' => w'.cell? ⟨w.heap.size, 0, none⟩ = some (.int .i64 (Q.H : Nat)) ∧ w'.cell? ⟨w.heap.size, 1, none⟩ = some (.int .i64 (Q.P : Nat)) ∧ w'.cell? ⟨w.heap.size, 2, none⟩ = some (.int .i64 (Q.M : Nat)) ∧ w'.cell? ⟨w.heap.size, 3, none⟩ = some (.int .u32 (Q.S : Nat))) (i := 9) (v := ?_) rfl (by decide) (by decide) (by kernel_rfl) (by kernel_rfl) (by kernel_rfl) (fun _ _ _ h => h) (.inl fun _ h => h) (Or.inl ⟨by rfl, ?hy9⟩) ⟨KB.out _ HBD.out, fun _ => HX.out _ HBD.out, fun _ => trivial⟩ ?hr9
  case hy9 => (intro w' hSw; (try dsimp only at hSw); go_simp <;> (with_reducible rfl))
  (try simp only [Act.put, List.setIfInBounds_toArray, List.set_cons_zero, List.set_cons_succ])
  refine wpAnyL_take (T := fun w' => w'.cell? ⟨w.heap.size, 0, none⟩ = some (.int .i64 (Q.H : Nat)) ∧ w'.cell? ⟨w.heap.size, 1, none⟩ = some (.int .i64 (Q.P : Nat)) ∧ w'.cell? ⟨w.heap.size, 2, none⟩ = some (.int .i64 (Q.M : Nat)) ∧ w'.cell? ⟨w.heap.size, 3, none⟩ = some (.int .u32 (Q.S : Nat))) (i := 11) (v := ?_) rfl (by decide) (by decide) (by kernel_rfl) (by kernel_rfl) (by kernel_rfl) (fun _ _ _ h => h) (.inl fun _ h => h) (Or.inl ⟨by rfl, ?hy11⟩) ⟨KB.out _ HBD.out, fun _ => HX.out _ HBD.out, fun _ => trivial⟩ ?hr11
  case hy11 => (intro w' hSw; (try dsimp only at hSw); go_simp <;> (with_reducible rfl))
  (try simp only [Act.put, List.setIfInBounds_toArray, List.set_cons_zero, List.set_cons_succ])
  refine wpAnyL_take (T := fun w' => w'.cell? ⟨w.heap.size, 0, none⟩ = some (.int .i64 (Q.H : Nat)) ∧ w'.cell? ⟨w.heap.size, 1, none⟩ = some (.int .i64 (Q.P : Nat)) ∧ w'.cell? ⟨w.heap.size, 2, none⟩ = some (.int .i64 (Q.M : Nat)) ∧ w'.cell? ⟨w.heap.size, 3, none⟩ = some (.int .u32 (Q.S : Nat))) (i := 12) (v := ?_) rfl (by decide) (by decide) (by kernel_rfl) (by kernel_rfl) (by kernel_rfl) (fun _ _ _ h => h) (.inl fun _ h => h) (Or.inl ⟨by rfl, ?hy12⟩) ⟨KB.out _ HBD.out, fun _ => HX.out _ HBD.out, fun _ => trivial⟩ ?hr12
  case hy12 => (intro w' hSw; (try dsimp only at hSw); go_simp <;> (with_reducible rfl))
  (try simp only [Act.put, List.setIfInBounds_toArray, List.set_cons_zero, List.set_cons_succ])
  refine wpAnyL_take (T := fun w' => w'.cell? ⟨w.heap.size, 0, none⟩ = some (.int .i64 (Q.H : Nat)) ∧ w'.cell? ⟨w.heap.size, 1, none⟩ = some (.int .i64 (Q.P : Nat)) ∧ w'.cell? ⟨w.heap.size, 2, none⟩ = some (.int .i64 (Q.M : Nat)) ∧ w'.cell? ⟨w.heap.size, 3, none⟩ = some (.int .u32 (Q.S : Nat))) (i := 13) (v := ?_) rfl (by decide) (by decide) (by kernel_rfl) (by kernel_rfl) (by kernel_rfl) (fun _ _ _ h => h) (.inl fun _ h => h) (Or.inl ⟨by rfl, ?hy13⟩) ⟨KB.out _ HBD.out, fun _ => HX.out _ HBD.out, fun _ => trivial⟩ ?hr13
  case hy13 => (intro w' hSw; (try dsimp only at hSw); go_simp <;> (with_reducible rfl))
  (try simp only [Act.put, List.setIfInBounds_toArray, List.set_cons_zero, List.set_cons_succ])
  refine wpAnyL_take (T := fun w' => w'.cell? ⟨w.heap.size, 0, none⟩ = some (.int .i64 (Q.H : Nat)) ∧ w'.cell? ⟨w.heap.size, 1, none⟩ = some (.int .i64 (Q.P : Nat)) ∧ w'.cell? ⟨w.heap.size, 2, none⟩ = some (.int .i64 (Q.M : Nat)) ∧ w'.cell? ⟨w.heap.size, 3, none⟩ = some (.int .u32 (Q.S : Nat))) (i := 14) (v := ?_) rfl (by decide) (by decide) (by kernel_rfl) (by kernel_rfl) (by kernel_rfl) (fun _ _ _ h => h) (.inl fun _ h => h) (Or.inl ⟨by rfl, ?hy14⟩) ⟨KB.out _ HBD.out, fun _ => HX.out _ HBD.out, fun _ => trivial⟩ ?hr14
  case hy14 => (intro w' hSw; (try dsimp only at hSw); go_simp <;> (with_reducible rfl))
  (try simp only [Act.put, List.setIfInBounds_toArray, List.set_cons_zero, List.set_cons_succ])
  refine wpAnyL_one (i := 10) (by kernel_rfl) rfl (fun K hK => ?_)
  go_simp
  go_at_call 16
  (with_reducible refine (HLn.out _ HBD.out).mono ?_)
  rintro e w5 ⟨rfl, hb⟩
  have HB5 := Lib.hid (bl_trans HBD.out hb)
  clear hb
  refine hK.out _ _ ⟨KB.out _ HB5.out, fun _ => HX.out _ HB5.out, fun _ => trivial⟩ ?_
  clear hK K
  (try simp only [Act.put, List.setIfInBounds_toArray, List.set_cons_zero, List.set_cons_succ])
  refine wpAnyL_one (i := 15) (by kernel_rfl) rfl (fun K hK => ?_)
  go_simp
  go_at_call 43
  (with_reducible refine (HGn.out _ HB5.out).mono ?_)
  rintro e w6 ⟨ka, kc, rfl, hc, hb⟩
  have HKC := Lib.hid hc
  have HB6 := Lib.hid (bl_trans HB5.out hb)
  clear hc hb
  refine hK.out _ _ ⟨KB.out _ HB6.out, fun _ => HX.out _ HB6.out, fun _ => trivial⟩ ?_
  clear hK K
  (try simp only [Act.put, List.setIfInBounds_toArray, List.set_cons_zero, List.set_cons_succ])
  refine wpAnyL_one (i := 16) (by kernel_rfl) rfl (fun K hK => ?_)
  go_simp
  go_at_call 42
  (with_reducible refine (HRw.out _ _ _ HB6.out HKC.out).mono ?_)
  rintro e w7 ⟨a, c, Rn, rfl, hk, hr, hb⟩
  have HK := Lib.hid hk
  have HRN := Lib.hid hr
  have HB7 := Lib.hid (bl_trans HB6.out hb)
  clear hk hr hb
  refine hK.out _ _ ⟨KB.out _ HB7.out, fun _ => HX.out _ HB7.out, fun _ => trivial⟩ ?_
  clear hK K
  (try simp only [Act.put, List.setIfInBounds_toArray, List.set_cons_zero, List.set_cons_succ])
  refine wpAnyL_take (T := fun w' => w'.cell? ⟨w.heap.size, 0, none⟩ = some (.int .i64 (Q.H : Nat)) ∧ w'.cell? ⟨w.heap.size, 1, none⟩ = some (.int .i64 (Q.P : Nat)) ∧ w'.cell? ⟨w.heap.size, 2, none⟩ = some (.int .i64 (Q.M : Nat)) ∧ w'.cell? ⟨w.heap.size, 3, none⟩ = some (.int .u32 (Q.S : Nat))) (i := 17) (v := ?_) rfl (by decide) (by decide) (by kernel_rfl) (by kernel_rfl) (by kernel_rfl) (fun _ _ _ h => h) (.inl fun _ h => h) (Or.inl ⟨by rfl, ?hy17⟩) ⟨KB.out _ HB7.out, fun _ => HX.out _ HB7.out, fun _ => trivial⟩ ?hr17
  case hy17 => (intro w' hSw; (try dsimp only at hSw); go_simp <;> (with_reducible rfl))
  (try simp only [Act.put, List.setIfInBounds_toArray, List.set_cons_zero, List.set_cons_succ])
  refine wpAnyL_one (i := 18) (by kernel_rfl) rfl (fun K hK => ?_)
  go_simp
  go_at_call 41
  (with_reducible refine (HLy.out _ _ _ _ HB7.out HK.out HRN.out).mono ?_)
  rintro e w' ⟨rfl, hu, hk⟩
  have HF := Lib.hid hu
  have HLK := Lib.hid hk
  clear hu hk
  refine hK.out _ _ ⟨K0.out _ HLK.out, fun h => Bool.noConfusion h, fun _ => trivial⟩ ?_
  clear hK K
  (try simp only [Act.put, List.setIfInBounds_toArray, List.set_cons_zero, List.set_cons_succ])
  refine wpAnyL_one (i := 19) (by kernel_rfl) rfl (fun K hK => ?_)
  go_simp
  refine hK.out _ _ ⟨K0.out _ HLK.out, fun h => Bool.noConfusion h, fun _ => trivial⟩ ?_
  clear hK K
  (try dsimp only [Act.put])
  (try simp only [List.setIfInBounds_toArray, List.set_cons_zero, List.set_cons_succ])
  refine wpAnyL_done (by kernel_rfl) ?_ _
  go_wp2
  go_ret
  exact ⟨rfl, HF.out⟩
end Go.Proofs.YtbhfbdcmamodcaaGreatDoor
namespace Go.Proofs.YtbhfbdcmamodcaaGreatDoor
open Go.RowKit Go.Maps TrMath FrMath PackMath SumMath
def FoundR (w : World) (r : RowP) (Q : SetP) (e : Ending) (w' : World) : Prop := ∃ pa pc, e = .returned (.tuple #[.agg #[.slice pa r.parents.length pc, .int .i64 (r.tree : Nat), .int .i64 (r.gen : Nat), .int .i64 (r.st : Nat), .string r.bits], .agg #[.int .i64 (Q.H : Nat), .int .i64 (Q.P : Nat), .int .i64 (Q.M : Nat), .int .u32 (Q.S : Nat)], .bool true]) ∧
  CellsAt w pa (r.parents.flatMap natV) ∧ r.parents.length ≤ pc ∧ pc ≤ maxLen ∧ Below w.heap.size w w'
def five (w : World) (s : Nat) (a b c d e : Value) : World := ((((w.setCell ⟨s, 0, none⟩ a).setCell ⟨s, 1, none⟩ b).setCell ⟨s, 2, none⟩ c).setCell ⟨s, 3, none⟩ d).setCell ⟨s, 4, none⟩ e
def four (w : World) (s : Nat) (a b c d : Value) : World := (((w.setCell ⟨s, 0, none⟩ a).setCell ⟨s, 1, none⟩ b).setCell ⟨s, 2, none⟩ c).setCell ⟨s, 3, none⟩ d
theorem five_row {w : World} {s : Nat} {z0 z1 z2 z3 z4 : Value} {t : TypeId} (h : w.heap[s]? = some (.cells #[z0, z1, z2, z3, z4] t (0, 0))) (a b c d e : Value) : (five w s a b c d e).heap[s]? = some (.cells #[a, b, c, d, e] t (0, 0)) :=
  heap_setCell_same _ s 4 _ _ e (heap_setCell_same _ s 3 _ _ d (heap_setCell_same _ s 2 _ _ c (heap_setCell_same _ s 1 _ _ b (heap_setCell_same w s 0 _ _ a h))))
theorem four_row {w : World} {s : Nat} {z0 z1 z2 z3 : Value} {t : TypeId} (h : w.heap[s]? = some (.cells #[z0, z1, z2, z3] t (0, 0))) (a b c d : Value) : (four w s a b c d).heap[s]? = some (.cells #[a, b, c, d] t (0, 0)) :=
  heap_setCell_same _ s 3 _ _ d (heap_setCell_same _ s 2 _ _ c (heap_setCell_same _ s 1 _ _ b (heap_setCell_same w s 0 _ _ a h)))
theorem five_upd (w : World) (s : Nat) (a b c d e : Value) : Upd (· = s) w (five w s a b c d e) :=
  (((((Upd.refl (fun k => k = s) w).set s 0 a (.inl rfl)).set s 1 b (.inl rfl)).set s 2 c (.inl rfl)).set s 3 d (.inl rfl)).set s 4 e (.inl rfl)
theorem four_upd (w : World) (s : Nat) (a b c d : Value) : Upd (· = s) w (four w s a b c d) :=
  ((((Upd.refl (fun k => k = s) w).set s 0 a (.inl rfl)).set s 1 b (.inl rfl)).set s 2 c (.inl rfl)).set s 3 d (.inl rfl)
theorem found_end {w W X : World} {s : Nat} {ta tb : TypeId} {a b c d e f g h k y0 y1 y2 y3 y4 x0 x1 x2 x3 : Value} (hb : Below w.heap.size w W) (hs : w.heap.size ≤ s) (h0 : W.heap[s]? = some (.cells #[y0, y1, y2, y3, y4] ta (0, 0))) (h1 : W.heap[s + 1]? = some (.cells #[x0, x1, x2, x3] tb (0, 0)))
    (hX : X = four (five W s a b c d e) (s + 1) f g h k ∨ X = five (four W (s + 1) f g h k) s a b c d e) :
    X.cell? ⟨s, 0, none⟩ = some a ∧ X.cell? ⟨s, 1, none⟩ = some b ∧ X.cell? ⟨s, 2, none⟩ = some c ∧ X.cell? ⟨s, 3, none⟩ = some d ∧ X.cell? ⟨s, 4, none⟩ = some e ∧ X.cell? ⟨s + 1, 0, none⟩ = some f ∧ X.cell? ⟨s + 1, 1, none⟩ = some g ∧ X.cell? ⟨s + 1, 2, none⟩ = some h ∧ X.cell? ⟨s + 1, 3, none⟩ = some k ∧ Below w.heap.size w X := by
  have hl := (Array.getElem?_eq_some_iff.1 h0).1
  have hl1 := (Array.getElem?_eq_some_iff.1 h1).1
  have key : X.heap[s]? = some (.cells #[a, b, c, d, e] ta (0, 0)) ∧ X.heap[s + 1]? = some (.cells #[f, g, h, k] tb (0, 0)) ∧ Below w.heap.size w X := by
    have hz := hb.size
    rcases hX with rfl | rfl
    · have u1 := five_upd W s a b c d e
      have u2 := four_upd (five W s a b c d e) (s + 1) f g h k
      have hz1 := u1.size
      refine ⟨?_, four_row ((u1.block _ hl1 (by omega)).trans h1) f g h k, (hb.trans (u1.below (fun i e => by have : i = s := e; omega) hz)).trans (u2.below (fun i e => by have : i = s + 1 := e; omega) (by omega))⟩
      rw [u2.block s (by omega) (by omega)]
      exact five_row h0 a b c d e
    · have u1 := four_upd W (s + 1) f g h k
      have u2 := five_upd (four W (s + 1) f g h k) s a b c d e
      have hz1 := u1.size
      refine ⟨five_row ((u1.block _ hl (by omega)).trans h0) a b c d e, ?_, (hb.trans (u1.below (fun i e => by have : i = s + 1 := e; omega) hz)).trans (u2.below (fun i e => by have : i = s := e; omega) (by omega))⟩
      rw [u2.block (s + 1) (by omega) (by omega)]
      exact four_row h1 f g h k
  obtain ⟨k0, k1, k2⟩ := key
  exact ⟨by rw [cell_of_row _ _ _ _ _ _ k0]; rfl, by rw [cell_of_row _ _ _ _ _ _ k0]; rfl, by rw [cell_of_row _ _ _ _ _ _ k0]; rfl, by rw [cell_of_row _ _ _ _ _ _ k0]; rfl, by rw [cell_of_row _ _ _ _ _ _ k0]; rfl,
    by rw [cell_of_row _ _ _ _ _ _ k1]; rfl, by rw [cell_of_row _ _ _ _ _ _ k1]; rfl, by rw [cell_of_row _ _ _ _ _ _ k1]; rfl, by rw [cell_of_row _ _ _ _ _ _ k1]; rfl, k2⟩
set_option maxHeartbeats 4000000 in
set_option maxRecDepth 100000 in
theorem xFindTry {w : World} {x : Nat} {I : IndexS} {R : Foot} (h : IndexAt w x I R) (hl : I.links.length ≤ 1000) (ht : totalL I.links ≤ 1000000) (n : Nat) (hn : n < totalL I.links) (G : List GrE) (hGe : I.graphs = G) (hGl : G.length ≤ 1000) (hfew : ∀ e ∈ G, e.g.base + e.g.rows.length ≤ 1000000) (t : Nat) (htl : t < G.length) (hbase : G[t].g.base ≤ n) (htop : n < G[t].g.base + G[t].g.rows.length) (hpre : ∀ j (hj : j < G.length), j < t → G[j].g.base + G[j].g.rows.length ≤ n) (rr : RowP) (hrr : G[t].g.rows[n - G[t].g.base]? = some rr) :
    Calls Tryz.prog 298 #[.pointer (some ⟨x, 0, none⟩), .int .i64 (n : Nat)] w (FoundR w rr G[t].g.set) := by
  obtain ⟨a, c, hgv, hc, _, _, _, _⟩ := h.gv.sl
  rw [hGe] at hgv hc
  obtain ⟨W2, hW2⟩ : ∃ W2, (w.alloc (.cells #[.slice none 0 0, .int .i64 0, .int .i64 0, .int .i64 0, .string ⟨#[]⟩] 188)).alloc (.cells #[.int .i64 0, .int .i64 0, .int .i64 0, .int .u32 0] 49) = W2 := ⟨_, rfl⟩
  have hb2 : Below w.heap.size w W2 := by rw [← hW2]; exact bl_alloc (bl_alloc (Below.refl _ w) _) _
  have HLn := Lib.hid (xLen (h.below hb2) hl ht)
  have c2 : W2.cell? ⟨x, 2, none⟩ = some (.slice a G.length c) := bl_cell hb2 (by rw [cell_of_row _ _ _ _ _ _ h.box, ← hgv]; rfl)
  have HC := Lib.hid (hc.below hb2)
  have HR := Lib.hid (show ∀ e ∈ G, e.n = e.g.rows.length ∧ e.n ≤ e.c ∧ e.c ≤ maxLen ∧ RowsAt w e.a e.g.rows from fun e he => by
    have := h.rows e (by rw [hGe]; exact he)
    exact ⟨this.len, this.cap.1, this.cap.2, this.rows.now⟩)
  have HFW := Lib.hid hfew; have HPR := Lib.hid hpre; have HBA := Lib.hid hbase; have HTP := Lib.hid htop
  have HW2 := Lib.hid hW2; have HB2 := Lib.hid hb2
  have hd0 : decide ((0 : Int) ≤ (n : Int)) = true := decide_eq_true (by omega)
  have hd1 : decide ((n : Int) < (totalL I.links : Int)) = true := decide_eq_true (by omega)
  have hd2 : decide (n < totalL I.links) = true := decide_eq_true hn
  obtain ⟨rs, hrs⟩ : ∃ rs, G[t].g.set = rs := ⟨_, rfl⟩
  rw [hrs]
  have HRR := Lib.hid hrr; have HRS := Lib.hid hrs
  clear h hgv hc hW2 hb2 hGe hpre hbase hfew hrr hrs
  clear htop
  go_enter Tryz.func298, Tryz.ntmps298
  go_wp2_with fail
  rw [HW2.out]
  go_wp2_with fail
  (with_reducible refine HLn.out.mono ?_)
  rintro e w3 ⟨rfl, hb⟩
  have HB3 := Lib.hid hb
  have c2' := bl_cell hb c2
  clear hb c2
  go_wp2_with fail
  go_loopw [22] (fun iv wr => ∃ k : Nat, k ≤ t ∧ iv = .int .i64 k ∧ Below W2.heap.size W2 wr) (fun iv _ => t - (intOf iv).toNat)
  case atStart => exact ⟨0, Nat.zero_le _, rfl, HB3.out⟩
  case round =>
    obtain ⟨k, hk, rfl, hbel⟩ := hrel
    obtain ⟨wq, hwq⟩ : ∃ wq : World, wq = wr := ⟨_, rfl⟩
    subst hwq
    have HB := Lib.hid hbel
    clear hbel
    have hlt : k < G.length := by omega
    obtain ⟨b, off, rfl, _, g0, g1, g2, g3, g4, g5⟩ := gr_cells (HC.out.below HB.out) hlt
    by_cases hkt : k = t
    · subst hkt
      have hbk := HBA.out; have htp := HTP.out; have hml := HFW.out _ (List.getElem_mem hlt)
      obtain ⟨r1, r2, r3, r4⟩ := HR.out _ (List.getElem_mem hlt)
      obtain ⟨E, hE⟩ : ∃ E, G[k] = E := ⟨_, rfl⟩
      rw [hE] at g0 g1 g2 g3 g4 g5 hbk htp hml r1 r2 r3 r4
      obtain ⟨ea, en, ec, eg⟩ := E
      simp only at g0 g1 g2 g3 g4 g5 hbk htp hml r1 r2 r3 r4
      subst r1
      obtain ⟨j, hj⟩ : ∃ j, n - eg.base = j := ⟨_, rfl⟩
      have hjl : j < eg.rows.length := by omega
      have r5 := r4.get hjl
      obtain ⟨rb, ro, pa, pc, rfl, hrb, p0, p1, p2, p3, p4, hpc, hpl, hpm, _⟩ := r5
      have hw : IntKind.i64.wrap ((eg.base : Int) + (eg.rows.length : Int)) = ((eg.base + eg.rows.length : Nat) : Int) := by rw [IntWalk.i64_in _ (by omega)]; omega
      have hw2 : IntKind.i64.wrap ((n : Int) - (eg.base : Int)) = (j : Int) := by rw [IntWalk.i64_in _ (by omega)]; omega
      have hdn : decide ((n : Int) < ((eg.base + eg.rows.length : Nat) : Int)) = true := decide_eq_true (by omega)
      have hdn2 : decide (n < eg.base + eg.rows.length) = true := decide_eq_true htp
      have hrs := HRS.out; have hrr := HRR.out
      rw [hE] at hrs
      simp only at hrs
      have HRV := Lib.hid (show rr = eg.rows[j] from by
        rw [hE] at hrr
        simp only at hrr
        rw [hj, List.getElem?_eq_getElem hjl] at hrr
        exact (Option.some.inj hrr).symm)
      have HSV := Lib.hid hrs
      clear hE r4 hrs hrr
      obtain ⟨go, hgo⟩ : ∃ go, Obj.cells #[.int .i64 (eg.base : Nat), .int .i64 (eg.set.H : Nat), .int .i64 (eg.set.P : Nat), .int .i64 (eg.set.M : Nat), .int .u32 (eg.set.S : Nat), .slice (some ⟨rb, ro, none⟩) eg.rows.length ec] 103 = go := ⟨_, rfl⟩
      obtain ⟨WX, hWX⟩ : ∃ WX, wq.alloc go = WX := ⟨_, rfl⟩
      have hbq := bl_trans HB2.out HB.out
      have hzz : W2.heap.size = w.heap.size + 2 := by rw [← HW2.out]; simp
      have hb2q : Below W2.heap.size W2 WX := by rw [← hWX]; exact bl_alloc HB.out go
      have hbx : Below w.heap.size w WX := bl_trans HB2.out hb2q
      have h0x : WX.heap[w.heap.size]? = some (.cells #[.slice none 0 0, .int .i64 0, .int .i64 0, .int .i64 0, .string ⟨#[]⟩] 188 (0, 0)) := by rw [hb2q.block _ (by omega), ← HW2.out]; exact heap_alloc2_old _ _ _
      have h1x : WX.heap[w.heap.size + 1]? = some (.cells #[.int .i64 0, .int .i64 0, .int .i64 0, .int .u32 0] 49 (0, 0)) := by rw [hb2q.block _ (by omega), ← HW2.out]; exact heap_alloc2_new _ _ _
      have hbb : WX.heap[wq.heap.size]? = some go := by rw [← hWX]; exact heap_alloc_new _ _
      rw [← hgo] at hbb
      have hqz : W2.heap.size ≤ wq.heap.size := HB.out.size
      have HC := Lib.hid (show ∀ Y, Upd (fun k => k = w.heap.size ∨ k = w.heap.size + 1) WX Y → Y.cell? ⟨wq.heap.size, 0, none⟩ = some (.int .i64 (eg.base : Nat)) ∧ Y.cell? ⟨wq.heap.size, 1, none⟩ = some (.int .i64 (eg.set.H : Nat)) ∧ Y.cell? ⟨wq.heap.size, 2, none⟩ = some (.int .i64 (eg.set.P : Nat)) ∧ Y.cell? ⟨wq.heap.size, 3, none⟩ = some (.int .i64 (eg.set.M : Nat)) ∧ Y.cell? ⟨wq.heap.size, 4, none⟩ = some (.int .u32 (eg.set.S : Nat)) ∧ Y.cell? ⟨wq.heap.size, 5, none⟩ = some (.slice (some ⟨rb, ro, none⟩) eg.rows.length ec) ∧
          Y.cell? ⟨rb, ro + j * 5, none⟩ = some (.slice pa eg.rows[j].parents.length pc) ∧ Y.cell? ⟨rb, ro + j * 5 + 1, none⟩ = some (.int .i64 (eg.rows[j].tree : Nat)) ∧ Y.cell? ⟨rb, ro + j * 5 + 2, none⟩ = some (.int .i64 (eg.rows[j].gen : Nat)) ∧ Y.cell? ⟨rb, ro + j * 5 + 3, none⟩ = some (.int .i64 (eg.rows[j].st : Nat)) ∧ Y.cell? ⟨rb, ro + j * 5 + 4, none⟩ = some (.string eg.rows[j].bits) from fun Y hY => by
        have hyb := (hY.block wq.heap.size (by rw [← hWX]; simp) (by omega)).trans hbb
        have hcell : ∀ c u, w.cell? ⟨rb, c, none⟩ = some u → Y.cell? ⟨rb, c, none⟩ = some u := fun c u hu => by
          rw [World.cell?_of_block ((hY.block rb (by have := hbx.size; omega) (by omega)).trans (hbx.block rb hrb))]
          exact hu
        exact ⟨by rw [cell_of_row _ _ _ _ _ _ hyb]; rfl, by rw [cell_of_row _ _ _ _ _ _ hyb]; rfl, by rw [cell_of_row _ _ _ _ _ _ hyb]; rfl, by rw [cell_of_row _ _ _ _ _ _ hyb]; rfl, by rw [cell_of_row _ _ _ _ _ _ hyb]; rfl, by rw [cell_of_row _ _ _ _ _ _ hyb]; rfl,
          hcell _ _ p0, hcell _ _ p1, hcell _ _ p2, hcell _ _ p3, hcell _ _ p4⟩)
      have hu0 : Upd (fun k => k = w.heap.size ∨ k = w.heap.size + 1) WX WX.drew := (Upd.refl _ WX).drew
      have hu1 : ∀ a b c d e, Upd (fun k => k = w.heap.size ∨ k = w.heap.size + 1) WX (five WX w.heap.size a b c d e).drew := fun a b c d e => ((five_upd WX w.heap.size a b c d e).mono fun k e => .inl e).drew
      have hu2 : ∀ a b c d e f g h i, Upd (fun k => k = w.heap.size ∨ k = w.heap.size + 1) WX (four (five WX w.heap.size a b c d e) (w.heap.size + 1) f g h i).drew := fun a b c d e f g h i => Upd.drew <| ((five_upd WX w.heap.size a b c d e).mono fun k e => .inl e).trans ((four_upd _ (w.heap.size + 1) f g h i).mono fun k e => .inr e) fun k e => .inl e
      unfold five at hu1
      unfold four five at hu2
      have HU0 := Lib.hid hu0; have HU1 := Lib.hid hu1; have HU2 := Lib.hid hu2
      have HWX := Lib.hid hWX; have HGO := Lib.hid hgo; have HPC := Lib.hid hpc; have HBX := Lib.hid hbx
      have HE := Lib.hid (found_end (w := w) (W := WX) (X := four (five WX w.heap.size (.slice pa eg.rows[j].parents.length pc) (.int .i64 (eg.rows[j].tree : Nat)) (.int .i64 (eg.rows[j].gen : Nat)) (.int .i64 (eg.rows[j].st : Nat)) (.string eg.rows[j].bits)) (w.heap.size + 1) (.int .i64 (eg.set.H : Nat)) (.int .i64 (eg.set.P : Nat)) (.int .i64 (eg.set.M : Nat)) (.int .u32 (eg.set.S : Nat))) hbx (Nat.le_refl _) h0x h1x (.inl rfl))
      have z0 := frozen_of_row WX w.heap.size 0 _ _ h0x; have z1 := frozen_of_row WX w.heap.size 1 _ _ h0x; have z2 := frozen_of_row WX w.heap.size 2 _ _ h0x; have z3 := frozen_of_row WX w.heap.size 3 _ _ h0x; have z4 := frozen_of_row WX w.heap.size 4 _ _ h0x
      have y0 := frozen_of_row WX (w.heap.size + 1) 0 _ _ h1x; have y1 := frozen_of_row WX (w.heap.size + 1) 1 _ _ h1x; have y2 := frozen_of_row WX (w.heap.size + 1) 2 _ _ h1x; have y3 := frozen_of_row WX (w.heap.size + 1) 3 _ _ h1x
      have a0 : WX.cell? ⟨w.heap.size, 0, none⟩ = some (.slice none 0 0) := by rw [cell_of_row _ _ _ _ _ _ h0x]; rfl
      have a1 : WX.cell? ⟨w.heap.size, 1, none⟩ = some (.int .i64 0) := by rw [cell_of_row _ _ _ _ _ _ h0x]; rfl
      have a2 : WX.cell? ⟨w.heap.size, 2, none⟩ = some (.int .i64 0) := by rw [cell_of_row _ _ _ _ _ _ h0x]; rfl
      have a3 : WX.cell? ⟨w.heap.size, 3, none⟩ = some (.int .i64 0) := by rw [cell_of_row _ _ _ _ _ _ h0x]; rfl
      have a4 : WX.cell? ⟨w.heap.size, 4, none⟩ = some (.string ⟨#[]⟩) := by rw [cell_of_row _ _ _ _ _ _ h0x]; rfl
      have b0 : WX.cell? ⟨w.heap.size + 1, 0, none⟩ = some (.int .i64 0) := by rw [cell_of_row _ _ _ _ _ _ h1x]; rfl
      have b1 : WX.cell? ⟨w.heap.size + 1, 1, none⟩ = some (.int .i64 0) := by rw [cell_of_row _ _ _ _ _ _ h1x]; rfl
      have b2 : WX.cell? ⟨w.heap.size + 1, 2, none⟩ = some (.int .i64 0) := by rw [cell_of_row _ _ _ _ _ _ h1x]; rfl
      have b3 : WX.cell? ⟨w.heap.size + 1, 3, none⟩ = some (.int .u32 0) := by rw [cell_of_row _ _ _ _ _ _ h1x]; rfl
      have hj0 : (0 : Int) ≤ (j : Int) := by omega
      have hj1 : (j : Int) < (eg.rows.length : Int) := by omega
      clear hgo hWX hb2q hbx h0x h1x hbb hu0 hu1 hu2 hpc p0 p1 p2 p3 p4 hbq hzz hqz hj
      go_wp2
      rw [HGO.out, HWX.out]
      go_region_held3 (fun Y => Y.cell? ⟨wq.heap.size, 0, none⟩ = some (.int .i64 (eg.base : Nat)) ∧ Y.cell? ⟨wq.heap.size, 1, none⟩ = some (.int .i64 (eg.set.H : Nat)) ∧ Y.cell? ⟨wq.heap.size, 2, none⟩ = some (.int .i64 (eg.set.P : Nat)) ∧ Y.cell? ⟨wq.heap.size, 3, none⟩ = some (.int .i64 (eg.set.M : Nat)) ∧ Y.cell? ⟨wq.heap.size, 4, none⟩ = some (.int .u32 (eg.set.S : Nat)) ∧ Y.cell? ⟨wq.heap.size, 5, none⟩ = some (.slice (some ⟨rb, ro, none⟩) eg.rows.length ec) ∧
          Y.cell? ⟨rb, ro + j * 5, none⟩ = some (.slice pa eg.rows[j].parents.length pc) ∧ Y.cell? ⟨rb, ro + j * 5 + 1, none⟩ = some (.int .i64 (eg.rows[j].tree : Nat)) ∧ Y.cell? ⟨rb, ro + j * 5 + 2, none⟩ = some (.int .i64 (eg.rows[j].gen : Nat)) ∧ Y.cell? ⟨rb, ro + j * 5 + 3, none⟩ = some (.int .i64 (eg.rows[j].st : Nat)) ∧ Y.cell? ⟨rb, ro + j * 5 + 4, none⟩ = some (.string eg.rows[j].bits))
        (first | with_reducible exact HC.out _ HU0.out | with_reducible exact HC.out _ (HU1.out _ _ _ _ _) | with_reducible exact HC.out _ (HU2.out _ _ _ _ _ _ _ _ _)) (fail)
      all_goals
        obtain ⟨e0, e1, e2, e3, e4, e5, e6, e7, e8, hbe⟩ := HE.out
        unfold five four at e0 e1 e2 e3 e4 e5 e6 e7 e8 hbe
        go_wp2
        refine bodyPost_ret (v := .tuple #[.agg #[.slice pa eg.rows[j].parents.length pc, .int .i64 (eg.rows[j].tree : Nat), .int .i64 (eg.rows[j].gen : Nat), .int .i64 (eg.rows[j].st : Nat), .string eg.rows[j].bits], .agg #[.int .i64 (eg.set.H : Nat), .int .i64 (eg.set.P : Nat), .int .i64 (eg.set.M : Nat), .int .u32 (eg.set.S : Nat)], .bool true]) (by simp [results, Tryz.results298, go_sem, e0, e1, e2, e3, e4, e5, e6, e7, e8]) rfl ?_
        have hrv := HRV.out; have hsv := HSV.out
        subst hsv
        rw [hrv]
        exact ⟨pa, pc, rfl, HPC.out, hpl, hpm, bl_drew hbe⟩
    · have hpk := HPR.out k hlt (by omega)
      obtain ⟨r1, r2, r3, r4⟩ := HR.out _ (List.getElem_mem hlt)
      obtain ⟨E, hE⟩ : ∃ E, G[k] = E := ⟨_, rfl⟩
      rw [hE] at g0 g1 g2 g3 g4 g5 hpk r1 r2 r3 r4
      obtain ⟨ea, en, ec, eg⟩ := E
      simp only at g0 g1 g2 g3 g4 g5 hpk r1 r2 r3 r4
      subst r1
      have hml : eg.rows.length ≤ 1152921504606846976 := by unfold maxLen at r3; omega
      have hw : IntKind.i64.wrap ((eg.base : Int) + (eg.rows.length : Int)) = ((eg.base + eg.rows.length : Nat) : Int) := by rw [IntWalk.i64_in _ (by omega)]; omega
      have hdn : decide ((n : Int) < ((eg.base + eg.rows.length : Nat) : Int)) = false := by rw [decide_eq_false_iff_not]; omega
      have HBA2 := Lib.hid (bl_alloc HB.out (.cells #[.int .i64 (eg.base : Nat), .int .i64 (eg.set.H : Nat), .int .i64 (eg.set.P : Nat), .int .i64 (eg.set.M : Nat), .int .u32 (eg.set.S : Nat), .slice ea eg.rows.length ec] 103))
      clear hE r4
      go_wp2
      go_roundw
      case rel => exact ⟨k + 1, by omega, by go_num, HBA2.out⟩
      case measure => simp [intOf]; omega
end Go.Proofs.YtbhfbdcmamodcaaGreatDoor
namespace Go.Proofs.YtbhfbdcmamodcaaGreatDoor
open Go.RowKit Go.Maps TrMath FrMath PackMath SumMath
def RowSaid (w : World) (r : RowP) (e : Ending) (w' : World) : Prop := ∃ pa pc, e = .returned (.tuple #[.agg #[.slice pa r.parents.length pc, .int .i64 (r.tree : Nat), .int .i64 (r.gen : Nat), .int .i64 (r.st : Nat), .string r.bits], .bool true]) ∧ OwnX 3 1 natV w' w.heap.size (.slice pa r.parents.length pc) r.parents ∧ Below w.heap.size w w'
set_option maxHeartbeats 4000000 in
set_option maxRecDepth 100000 in
theorem xRowGo {w W1 : World} {x n : Nat} {r : RowP} {Q : SetP} (hW1 : w.alloc (.cells #[.slice none 0 0, .int .i64 0, .int .i64 0, .int .i64 0, .string ⟨#[]⟩] 188) = W1) (hr : r.parents.length ≤ 1000) (hF : Calls Tryz.prog 298 #[.pointer (some ⟨x, 0, none⟩), .int .i64 (n : Nat)] W1 (FoundR W1 r Q)) :
    Calls Tryz.prog 297 #[.pointer (some ⟨x, 0, none⟩), .int .i64 (n : Nat)] w (RowSaid w r) := by
  have hb1 : Below w.heap.size w W1 := by rw [← hW1]; exact bl_alloc (Below.refl _ w) _
  have hs1 : W1.heap[w.heap.size]? = some (.cells #[.slice none 0 0, .int .i64 0, .int .i64 0, .int .i64 0, .string ⟨#[]⟩] 188 (0, 0)) := by rw [← hW1]; exact heap_alloc_new _ _
  have HF := Lib.hid hF; have HW1 := Lib.hid hW1; have HB1 := Lib.hid hb1; have HS1 := Lib.hid hs1
  clear hF hW1 hb1 hs1
  go_enter Tryz.func297, Tryz.ntmps297
  go_wp2_with fail
  rw [HW1.out]
  go_wp2_with fail
  (with_reducible refine HF.out.mono ?_)
  rintro e w2 ⟨pa, pc, rfl, hc, hpl, hpm, hb⟩
  obtain ⟨W3, hW3⟩ : ∃ W3, (w2.alloc (.cells #[.slice pa r.parents.length pc, .int .i64 (r.tree : Nat), .int .i64 (r.gen : Nat), .int .i64 (r.st : Nat), .string r.bits] 188)).alloc (.cells #[.int .i64 (Q.H : Nat), .int .i64 (Q.P : Nat), .int .i64 (Q.M : Nat), .int .u32 (Q.S : Nat)] 49) = W3 := ⟨_, rfl⟩
  have hb3 : Below w2.heap.size w2 W3 := by rw [← hW3]; exact bl_alloc (bl_alloc (Below.refl _ _) _) _
  have hs3 : W3.heap[w2.heap.size]? = some (.cells #[.slice pa r.parents.length pc, .int .i64 (r.tree : Nat), .int .i64 (r.gen : Nat), .int .i64 (r.st : Nat), .string r.bits] 188 (0, 0)) := by rw [← hW3]; exact heap_alloc2_old _ _ _
  have hz3 : w2.heap.size < W3.heap.size := by rw [← hW3]; simp; omega
  have c3 : W3.cell? ⟨w2.heap.size, 0, none⟩ = some (.slice pa r.parents.length pc) := by rw [cell_of_row _ _ _ _ _ _ hs3]; rfl
  have HCl := Lib.hid (kCloneInt r.parents pa pc (by omega) W3 ((hc.below hb).below hb3))
  have HW3 := Lib.hid hW3; have HB2 := Lib.hid hb; have HB3 := Lib.hid hb3; have HS3 := Lib.hid hs3
  clear hb hW3 hb3 hs3 hc
  go_wp2_with fail
  rw [HW3.out]
  go_wp2_with fail
  (with_reducible refine HCl.out.mono ?_)
  rintro e w4 ⟨v4, rfl, ho, hb⟩
  obtain ⟨a4, c4, rfl, _, _, _, _, _⟩ := OwnX.sl ho
  have hz : w.heap.size < W1.heap.size ∧ W1.heap.size ≤ w2.heap.size ∧ W3.heap.size ≤ w4.heap.size := ⟨(Array.getElem?_eq_some_iff.1 HS1.out).1, HB2.out.size, hb.size⟩
  have hs4 : w4.heap[w2.heap.size]? = _ := (hb.block _ hz3).trans HS3.out
  have hr4 : w4.heap[w.heap.size]? = _ := (hb.block _ (by omega)).trans ((HB3.out.block _ (by omega)).trans ((HB2.out.block _ (by omega)).trans HS1.out))
  have hs5 := heap_setCell_same w4 w2.heap.size 0 _ _ (.slice a4 r.parents.length c4) hs4
  have hr5 : (w4.setCell ⟨w2.heap.size, 0, none⟩ (.slice a4 r.parents.length c4)).heap[w.heap.size]? = _ := (heap_setCell_other _ _ _ _ (show w.heap.size ≠ w2.heap.size by omega)).trans hr4
  have q0 : w4.cell? ⟨w2.heap.size, 0, none⟩ = some (.slice pa r.parents.length pc) := by rw [cell_of_row _ _ _ _ _ _ hs4]; rfl
  have q1 : w4.cell? ⟨w2.heap.size, 1, none⟩ = some (.int .i64 (r.tree : Nat)) := by rw [cell_of_row _ _ _ _ _ _ hs4]; rfl
  have q2 : w4.cell? ⟨w2.heap.size, 2, none⟩ = some (.int .i64 (r.gen : Nat)) := by rw [cell_of_row _ _ _ _ _ _ hs4]; rfl
  have q3 : w4.cell? ⟨w2.heap.size, 3, none⟩ = some (.int .i64 (r.st : Nat)) := by rw [cell_of_row _ _ _ _ _ _ hs4]; rfl
  have q4 : w4.cell? ⟨w2.heap.size, 4, none⟩ = some (.string r.bits) := by rw [cell_of_row _ _ _ _ _ _ hs4]; rfl
  have qf : w4.frozen? ⟨w2.heap.size, 0, none⟩ = false := frozen_of_row _ _ _ _ _ hs4
  have hne : w2.heap.size ≠ w.heap.size := by omega
  have hfz : ∀ j, w4.frozen? ⟨w.heap.size, j, none⟩ = false := fun j => frozen_of_row _ _ _ _ _ hr4
  have f0 := hfz 0; have f1 := hfz 1; have f2 := hfz 2; have f3 := hfz 3; have f4 := hfz 4
  have e0 : w4.cell? ⟨w.heap.size, 0, none⟩ = some (.slice none 0 0) := by rw [cell_of_row _ _ _ _ _ _ hr4]; rfl
  have e1 : w4.cell? ⟨w.heap.size, 1, none⟩ = some (.int .i64 0) := by rw [cell_of_row _ _ _ _ _ _ hr4]; rfl
  have e2 : w4.cell? ⟨w.heap.size, 2, none⟩ = some (.int .i64 0) := by rw [cell_of_row _ _ _ _ _ _ hr4]; rfl
  have e3 : w4.cell? ⟨w.heap.size, 3, none⟩ = some (.int .i64 0) := by rw [cell_of_row _ _ _ _ _ _ hr4]; rfl
  have e4 : w4.cell? ⟨w.heap.size, 4, none⟩ = some (.string ⟨#[]⟩) := by rw [cell_of_row _ _ _ _ _ _ hr4]; rfl
  have hX := five_row hr5 (.slice a4 r.parents.length c4) (.int .i64 (r.tree : Nat)) (.int .i64 (r.gen : Nat)) (.int .i64 (r.st : Nat)) (.string r.bits)
  have hU := five_upd (w4.setCell ⟨w2.heap.size, 0, none⟩ (.slice a4 r.parents.length c4)) w.heap.size (.slice a4 r.parents.length c4) (.int .i64 (r.tree : Nat)) (.int .i64 (r.gen : Nat)) (.int .i64 (r.st : Nat)) (.string r.bits)
  obtain ⟨X, hXX⟩ : ∃ X, five (w4.setCell ⟨w2.heap.size, 0, none⟩ (.slice a4 r.parents.length c4)) w.heap.size (.slice a4 r.parents.length c4) (.int .i64 (r.tree : Nat)) (.int .i64 (r.gen : Nat)) (.int .i64 (r.st : Nat)) (.string r.bits) = X := ⟨_, rfl⟩
  rw [hXX] at hX hU
  have x0 : X.cell? ⟨w.heap.size, 0, none⟩ = some (.slice a4 r.parents.length c4) := by rw [cell_of_row _ _ _ _ _ _ hX]; rfl
  have x1 : X.cell? ⟨w.heap.size, 1, none⟩ = some (.int .i64 (r.tree : Nat)) := by rw [cell_of_row _ _ _ _ _ _ hX]; rfl
  have x2 : X.cell? ⟨w.heap.size, 2, none⟩ = some (.int .i64 (r.gen : Nat)) := by rw [cell_of_row _ _ _ _ _ _ hX]; rfl
  have x3 : X.cell? ⟨w.heap.size, 3, none⟩ = some (.int .i64 (r.st : Nat)) := by rw [cell_of_row _ _ _ _ _ _ hX]; rfl
  have x4 : X.cell? ⟨w.heap.size, 4, none⟩ = some (.string r.bits) := by rw [cell_of_row _ _ _ _ _ _ hX]; rfl
  have hbX : Below w.heap.size w X := by
    have h1 : Below w.heap.size w w4 := ((HB1.out.trans (HB2.out.mono HB1.out.size)).trans (HB3.out.mono (by omega))).trans (hb.mono (by omega))
    have h2 : Below w.heap.size w (w4.setCell ⟨w2.heap.size, 0, none⟩ (.slice a4 r.parents.length c4)) := h1.setCell (by show w.heap.size ≤ w2.heap.size; omega) _
    exact h2.trans (hU.below (fun i e => by have : i = w.heap.size := e; omega) h2.size)
  have hoX : OwnX 3 1 natV X w.heap.size (.slice a4 r.parents.length c4) r.parents := by
    refine OwnX.mono (B := W3.heap.size) (ho.stays fun g e => ?_) (by omega)
    obtain ⟨g1, g2⟩ := ho.lt g e
    rw [hU.block g (by simp [World.setCell]; exact g2) (fun e2 => by have e3 : g = w.heap.size := e2; omega)]
    exact heap_setCell_other _ _ _ _ (show g ≠ w2.heap.size by omega)
  have HX := Lib.hid hXX; have HBX := Lib.hid hbX; have HOX := Lib.hid hoX
  clear ho hb hs4 hr4 hs5 hr5 hX hU hXX hbX hoX hfz
  go_wp2
  refine bodyPost_ret (v := .tuple #[.agg #[.slice a4 r.parents.length c4, .int .i64 (r.tree : Nat), .int .i64 (r.gen : Nat), .int .i64 (r.st : Nat), .string r.bits], .bool true]) ?_ rfl ⟨a4, c4, rfl, ?_, ?_⟩
  · have := HX.out
    unfold five at this
    rw [this]
    simp [results, Tryz.results297, go_sem, x0, x1, x2, x3, x4]
  · have := HX.out
    unfold five at this
    rw [this]
    exact HOX.out
  · have := HX.out
    unfold five at this
    rw [this]
    exact HBX.out
end Go.Proofs.YtbhfbdcmamodcaaGreatDoor
namespace Go.Proofs.YtbhfbdcmamodcaaGreatDoor
open Go.RowKit Go.Maps TrMath FrMath PackMath SumMath
structure OS (W6 W : World) (B2 : Nat) (lv0 gv0 lv gv : Value) (L : List Link) (G : List GrE) : Prop where
  upd : Upd (fun k => lv0.ownBlock = some k ∨ gv0.ownBlock = some k) W6 W
  l : OwnX 149 3 linkV W B2 lv L
  g : OwnX 103 6 graphC W B2 gv G
  ne : ∀ k, lv.ownBlock = some k → gv.ownBlock ≠ some k
  la : ∀ k, lv.ownBlock = some k → lv0.ownBlock = some k ∨ W6.heap.size ≤ k
  ga : ∀ k, gv.ownBlock = some k → gv0.ownBlock = some k ∨ W6.heap.size ≤ k
section
variable {W6 W Y : World} {B2 : Nat} {lv0 gv0 lv gv : Value} {L : List Link} {G : List GrE}
theorem OS.below (h : OS W6 W B2 lv0 gv0 lv gv L G) (hb : Below W.heap.size W Y) : OS W6 Y B2 lv0 gv0 lv gv L G :=
  ⟨h.upd.thenB hb, h.l.below hb, h.g.below hb, h.ne, h.la, h.ga⟩
theorem OS.alloc (h : OS W6 W B2 lv0 gv0 lv gv L G) (o : Obj) : OS W6 (W.alloc o) B2 lv0 gv0 lv gv L G := h.below (bl_alloc (Below.refl _ _) o)
theorem OS.drew (h : OS W6 W B2 lv0 gv0 lv gv L G) : OS W6 W.drew B2 lv0 gv0 lv gv L G := h.below (bl_drew (Below.refl _ _))
end
def SrcAt (W : World) (b : Nat) (xs : List Value) : Prop := b < W.heap.size ∧ ∀ (j : Nat) u, xs[j]? = some u → W.cell? ((⟨b, 0, none⟩ : Addr).add j) = some u
theorem SrcAt.new (W : World) (xs : List Value) (t : TypeId) : SrcAt (W.alloc (.cells xs.toArray t)) W.heap.size xs := ⟨by simp, cells_new W xs t rfl⟩
theorem addr_j (b j : Nat) : (⟨b, 0, none⟩ : Addr).add j = ⟨b, 0 + j, none⟩ := by unfold Addr.add; split <;> simp_all
theorem SrcAt.keep {W Y : World} {b : Nat} {xs : List Value} (h : SrcAt W b xs) (hb : Y.heap[b]? = W.heap[b]?) (hz : W.heap.size ≤ Y.heap.size) : SrcAt Y b xs := ⟨Nat.lt_of_lt_of_le h.1 hz, fun j u hj => by
  have h1 := h.2 j u hj
  rw [addr_j] at h1 ⊢
  rw [World.cell?_of_block hb]
  exact h1⟩
theorem SrcAt.alloc {W : World} {b : Nat} {xs : List Value} (h : SrcAt W b xs) (o : Obj) : SrcAt (W.alloc o) b xs := h.keep (Below.heap_alloc _ _ _ h.1) (by simp)
theorem SrcAt.grown {W Y : World} {b : Nat} {xs : List Value} {r : Option Nat} (h : SrcAt W b xs) (hg : W.grownBy Y r) (hr : r ≠ some b) : SrcAt Y b xs := h.keep (hg.block b h.1 (Ne.symm hr)) hg.size
structure OpenRel (w W2 wr : World) (p : Nat) (L : List Link) (gs : List GraphP) (k : Nat) : Prop where
  ex : ∃ I R, IndexAt wr w.heap.size I R ∧ I.disk = p ∧ I.links = L.take k ∧ I.graphs.map GrE.g = gs.take k ∧ ∀ j, I.foot w.heap.size R j → j = w.heap.size ∨ W2.heap.size ≤ j
  keep : Upd (fun j => j = w.heap.size ∨ W2.heap.size ≤ j) W2 wr
theorem own_i {x : Nat} {I : IndexS} {k : Nat} : k ∈ I.own x ↔ k = x ∨ I.lv.ownBlock = some k ∨ I.gv.ownBlock = some k := by
  unfold IndexS.own
  rw [List.mem_cons, List.mem_append, Option.mem_toList, Option.mem_toList]
theorem OpenRel.push {w W2 wr W5 W6 W X : World} {p k : Nat} {L : List Link} {gs : List GraphP} {I : IndexS} {R : Foot} {lv gv : Value} {e : GrE} {y : Link} (hx : w.heap.size < W2.heap.size) (hk : Upd (fun j => j = w.heap.size ∨ W2.heap.size ≤ j) W2 wr)
    (hI : IndexAt wr w.heap.size I R) (hd : I.disk = p) (hl : I.links = L.take k) (hg : I.graphs.map GrE.g = gs.take k) (hf : ∀ j, I.foot w.heap.size R j → j = w.heap.size ∨ W2.heap.size ≤ j)
    (h5 : Below wr.heap.size wr W5) (he : GrOk (fun j => wr.heap.size ≤ j ∧ j < W5.heap.size) W5 e) (h6 : Below W5.heap.size W5 W6) (hO : OS W6 W W2.heap.size I.lv I.gv lv gv (I.links ++ [y]) (I.graphs ++ [e]))
    (hX : X = (W.setCell ⟨w.heap.size, 1, none⟩ lv).setCell ⟨w.heap.size, 2, none⟩ gv) (hy : I.links ++ [y] = L.take (k + 1)) (hge : gs.take k ++ [e.g] = gs.take (k + 1)) : OpenRel w W2 X p L gs (k + 1) := by
  subst hX
  have hz2 := hk.size; have hz5 := h5.size; have hz6 := h6.size; have hzW := hO.upd.size
  have hxl : w.heap.size < wr.heap.size := by omega
  have hnl : ∀ j, I.lv.ownBlock = some j → j ≠ w.heap.size ∧ W2.heap.size ≤ j ∧ j < wr.heap.size := fun j e => by
    have h1 := hf j (.inl (xown_lv e))
    have h2 := (hI.lv.lt j e).2
    have h3 := (List.nodup_cons.1 hI.apart).1
    have h4 : j ≠ w.heap.size := fun e2 => h3 (List.mem_append_left _ (by rw [← e2]; simp [e]))
    omega
  have hng : ∀ j, I.gv.ownBlock = some j → j ≠ w.heap.size ∧ W2.heap.size ≤ j ∧ j < wr.heap.size := fun j e => by
    have h1 := hf j (.inl (xown_gv e))
    have h2 := (hI.gv.lt j e).2
    have h3 := (List.nodup_cons.1 hI.apart).1
    have h4 : j ≠ w.heap.size := fun e2 => h3 (List.mem_append_right _ (by rw [← e2]; simp [e]))
    omega
  have hbW : W.heap[w.heap.size]? = some (.cells #[.pointer (some ⟨I.disk, 0, none⟩), I.lv, I.gv] 97 (0, 0)) := by
    rw [hO.upd.block _ (by omega) (fun e => by rcases e with e | e; exact (hnl _ e).1 rfl; exact (hng _ e).1 rfl), h6.block _ (by omega), h5.block _ hxl]
    exact hI.box
  have hb1 := heap_setCell_same W w.heap.size 1 _ _ lv hbW
  have hb2 := heap_setCell_same _ w.heap.size 2 _ _ gv hb1
  have hst : ∀ j, j ≠ w.heap.size → ((W.setCell ⟨w.heap.size, 1, none⟩ lv).setCell ⟨w.heap.size, 2, none⟩ gv).heap[j]? = W.heap[j]? := fun j hj => by rw [heap_setCell_other _ _ _ _ hj, heap_setCell_other _ _ _ _ hj]
  have hsz : ((W.setCell ⟨w.heap.size, 1, none⟩ lv).setCell ⟨w.heap.size, 2, none⟩ gv).heap.size = W.heap.size := by simp [World.setCell]
  obtain ⟨X, hX⟩ : ∃ X, (W.setCell ⟨w.heap.size, 1, none⟩ lv).setCell ⟨w.heap.size, 2, none⟩ gv = X := ⟨_, rfl⟩
  have hupX : Upd (fun j => j = w.heap.size) W X := by rw [← hX]; exact ((Upd.refl (fun j => j = w.heap.size) W).set _ 1 lv (.inl rfl)).set _ 2 gv (.inl rfl)
  rw [hX] at hb2 hst hsz ⊢
  have hlX : ∀ j, lv.ownBlock = some j → j ≠ w.heap.size ∧ W2.heap.size ≤ j ∧ j < X.heap.size ∧ ¬ R j ∧ ¬ (wr.heap.size ≤ j ∧ j < W5.heap.size) := fun j e => by
    obtain ⟨a1, a2⟩ := hO.l.lt j e
    refine ⟨by omega, a1, by omega, fun e2 => ?_, fun e2 => ?_⟩
    · rcases hO.la j e with e3 | e3
      · exact hI.off j (xown_lv e3) e2
      · have := hI.lt j e2; omega
    · rcases hO.la j e with e3 | e3
      · have := hnl j e3; omega
      · omega
  have hgX : ∀ j, gv.ownBlock = some j → j ≠ w.heap.size ∧ W2.heap.size ≤ j ∧ j < X.heap.size ∧ ¬ R j ∧ ¬ (wr.heap.size ≤ j ∧ j < W5.heap.size) := fun j e => by
    obtain ⟨a1, a2⟩ := hO.g.lt j e
    refine ⟨by omega, a1, by omega, fun e2 => ?_, fun e2 => ?_⟩
    · rcases hO.ga j e with e3 | e3
      · exact hI.off j (xown_gv e3) e2
      · have := hI.lt j e2; omega
    · rcases hO.ga j e with e3 | e3
      · have := hng j e3; omega
      · omega
  have hWr : ∀ j, j < W6.heap.size → j ≠ w.heap.size → I.lv.ownBlock ≠ some j → I.gv.ownBlock ≠ some j → X.heap[j]? = W6.heap[j]? := fun j h1 h2 h3 h4 => by
    rw [hst j h2]
    exact hO.upd.block j h1 (fun e => e.elim h3 h4)
  have hstR : Stays R wr X := ⟨fun j hj => by
    have h1 := hI.lt j hj
    rw [hWr j (by omega) (fun e => hI.off j (own_i.2 (.inl e)) hj) (fun e => hI.off j (own_i.2 (.inr (.inl e))) hj) (fun e => hI.off j (own_i.2 (.inr (.inr e))) hj), h6.block j (by omega), h5.block j h1], by omega⟩
  have hst5 : Stays (fun j => wr.heap.size ≤ j ∧ j < W5.heap.size) W5 X := ⟨fun j hj => by
    rw [hWr j (by omega) (by omega) (fun e => by have := hnl j e; omega) (fun e => by have := hng j e; omega), h6.block j hj.2], by omega⟩
  have hRX : ∀ j, (R.or fun j => wr.heap.size ≤ j ∧ j < W5.heap.size) j → j < X.heap.size := fun j hj => by
    rcases hj with hj | hj
    · have := hI.lt j hj; omega
    · omega
  refine ⟨⟨⟨I.disk, lv, gv, I.links ++ [y], I.graphs ++ [e]⟩, R.or fun j => wr.heap.size ≤ j ∧ j < W5.heap.size, ⟨hb2, (hO.l.stays fun j e => hst j (hlX j e).1).mono (Nat.zero_le _), (hO.g.stays fun j e => hst j (hgX j e).1).mono (Nat.zero_le _), fun e' he' => ?_, hRX, ?_, ?_⟩, hd, hy, ?_, ?_⟩, ?_⟩
  · rcases List.mem_append.1 he' with h1 | h1
    · exact ((hI.rows e' h1).stays hstR).mono (fun j hj => .inl hj) hRX
    · rw [List.mem_singleton.1 h1]
      exact (he.stays hst5).mono (fun j hj => .inr hj) hRX
  · show (w.heap.size :: (lv.ownBlock.toList ++ gv.ownBlock.toList)).Nodup
    rw [List.nodup_cons]
    refine ⟨fun hm => ?_, ?_⟩
    · rcases List.mem_append.1 hm with hm | hm
      · exact (hlX _ (Option.mem_toList.1 hm)).1 rfl
      · exact (hgX _ (Option.mem_toList.1 hm)).1 rfl
    · rw [List.nodup_append]
      refine ⟨by cases lv.ownBlock <;> simp, by cases gv.ownBlock <;> simp, fun a ha b hb e => ?_⟩
      subst e
      exact hO.ne a (Option.mem_toList.1 ha) (Option.mem_toList.1 hb)
  · intro j hj hj2
    rcases own_i.1 hj with e2 | e2 | e2
    · subst e2
      rcases hj2 with h1 | h1
      · exact hI.off _ xown_x h1
      · omega
    · obtain ⟨_, _, _, a, b⟩ := hlX j e2
      exact hj2.elim a b
    · obtain ⟨_, _, _, a, b⟩ := hgX j e2
      exact hj2.elim a b
  · show (I.graphs ++ [e]).map GrE.g = _
    rw [List.map_append, hg]
    exact hge
  · intro j hj
    rcases hj with hj | hj | hj
    · rcases own_i.1 hj with e2 | e2 | e2
      · exact .inl e2
      · exact .inr (hlX j e2).2.1
      · exact .inr (hgX j e2).2.1
    · exact hf j (.inr hj)
    · exact .inr (by omega)
  · have h1 : Upd (fun j => j = w.heap.size ∨ W2.heap.size ≤ j) W2 W6 := (hk.thenB h5).thenB h6
    have h2 := h1.trans (hO.upd.mono (G := fun j => j = w.heap.size ∨ W2.heap.size ≤ j) fun j hj => by
      rcases hj with e | e
      · exact .inr (hnl j e).2.1
      · exact .inr (hng j e).2.1) fun j hj => .inl hj
    exact h2.trans (hupX.mono (G := fun j => j = w.heap.size ∨ W2.heap.size ≤ j) fun j hj => .inl hj) fun j hj => .inl hj
end Go.Proofs.YtbhfbdcmamodcaaGreatDoor
