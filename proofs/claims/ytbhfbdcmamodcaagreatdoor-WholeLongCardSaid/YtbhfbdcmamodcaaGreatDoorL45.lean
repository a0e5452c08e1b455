/- The whole: the rows of commits, plain; rows that are being made; The whole: the rows are made of the store; The whole: the index as it stands; The whole: Layers; the generations of all rows; The whole: the index writes a file; WholeLong, plain: generations fall from a commit to its parents, up to the greatest. -/
import Derived.Test.YtbhfbdcmamodcaaGreatDoorL33
import Derived.Test.YtbhfbdcmamodcaaGreatDoorL44
import Derived.Test.YtbhfbdcmamodcaaGreatDoorL42
import Derived.Test.YtbhfbdcmamodcaaGreatDoorL17
import Derived.Test.YtbhfbdcmamodcaaGreatDoorL41
import Derived.Test.YtbhfbdcmamodcaaGreatDoorL01
import Derived.BigRegion
import Derived.Defers
import Derived.Recover
set_option linter.unusedVariables false
set_option linter.unusedSimpArgs false
namespace Go.Proofs.YtbhfbdcmamodcaaGreatDoor
open Go.RowKit Go.Maps TrMath FrMath PackMath
def gensN (cs : List ComP) : Nat → List Nat
  | 0 => []
  | n + 1 => gensN cs n ++ [nextG ((cs.getD n ([], 0)).1.map fun p => (gensN cs n).getD p 0)]
theorem gensN_len (cs : List ComP) : ∀ n, (gensN cs n).length = n
  | 0 => rfl
  | n + 1 => by rw [gensN, List.length_append, gensN_len cs n]; rfl
theorem nextG_pos (l : List Nat) : 1 ≤ nextG l ∧ nextG l ≤ 1023 := by unfold nextG; omega
theorem gensN_small (cs : List ComP) : ∀ n, ∀ x ∈ gensN cs n, 1 ≤ x ∧ x ≤ 1023
  | 0, x, h => by simp [gensN] at h
  | n + 1, x, h => by
    rw [gensN] at h
    rcases List.mem_append.1 h with h | h
    · exact gensN_small cs n x h
    · rw [List.mem_singleton] at h
      subst h
      exact nextG_pos _
theorem gensN_take (cs : List ComP) : ∀ n k, k ≤ n → (gensN cs n).take k = gensN cs k
  | 0, k, h => by
    obtain rfl : k = 0 := by omega
    rfl
  | n + 1, k, h => by
    rcases Nat.lt_or_ge n k with h1 | h1
    · obtain rfl : k = n + 1 := by omega
      rw [List.take_of_length_le (by rw [gensN_len]; omega)]
    · rw [gensN, List.take_append_of_le_length (by rw [gensN_len]; exact h1)]
      exact gensN_take cs n k h1
theorem gensN_getD (cs : List ComP) {n m k : Nat} (h1 : k < n) (h2 : n ≤ m) : (gensN cs m).getD k 0 = (gensN cs n).getD k 0 := by
  rw [← gensN_take cs m n h2, List.getD_eq_getElem?_getD, List.getD_eq_getElem?_getD, List.getElem?_take_of_lt h1]
def genAt (cs : List ComP) (n : Nat) : Nat := (gensN cs (n + 1)).getD n 0
theorem genAt_eq (cs : List ComP) (n : Nat) : genAt cs n = nextG ((cs.getD n ([], 0)).1.map fun p => (gensN cs n).getD p 0) := by
  unfold genAt
  rw [gensN, List.getD_eq_getElem?_getD, List.getElem?_append_right (by rw [gensN_len]; omega), gensN_len, Nat.sub_self]
  rfl
def oldOf (ts : List Ents) (cs : List ComP) (n : Nat) : Ents := match (cs.getD n ([], 0)).1 with | [] => [] | p :: _ => treeOf ts cs p
def filN (S : SetP) (ts : List Ents) (cs : List ComP) (n : Nat) : Nat × ByteArray := (makeR (S.H : Int) (S.P : Int) (S.M : Int) S.S (pathsL (diffL (oldOf ts cs n) (treeOf ts cs n)))).2
def rowN (S : SetP) (ts : List Ents) (cs : List ComP) (n : Nat) : RowP := ⟨(cs.getD n ([], 0)).1, (cs.getD n ([], 0)).2, genAt cs n, (filN S ts cs n).1, (filN S ts cs n).2⟩
def rowsFrom (S : SetP) (ts : List Ents) (cs : List ComP) (k m : Nat) : List RowP := (List.range m).map fun i => rowN S ts cs (k + i)
theorem rowsFrom_len (S : SetP) (ts : List Ents) (cs : List ComP) (k m : Nat) : (rowsFrom S ts cs k m).length = m := by simp [rowsFrom]
theorem rowsFrom_succ (S : SetP) (ts : List Ents) (cs : List ComP) (k m : Nat) : rowsFrom S ts cs k (m + 1) = rowsFrom S ts cs k m ++ [rowN S ts cs (k + m)] := by simp [rowsFrom, List.range_succ]
def Lasts (R : Foot) (w : World) (P : World → Prop) : Prop := (∀ k, R k → k < w.heap.size) ∧ ∀ x, Stays R w x → P x
theorem Stays.refl (R : Foot) (w : World) : Stays R w w := ⟨fun _ _ => rfl, Nat.le_refl _⟩
theorem Stays.trans {R : Foot} {w x y : World} (h : Stays R w x) (k : Stays R x y) : Stays R w y := ⟨fun i hi => (k.1 i hi).trans (h.1 i hi), Nat.le_trans h.2 k.2⟩
theorem Lasts.now {R : Foot} {w : World} {P : World → Prop} (h : Lasts R w P) : P w := h.2 w (Stays.refl _ _)
theorem Lasts.stays {R : Foot} {w x : World} {P : World → Prop} (h : Lasts R w P) (hs : Stays R w x) : Lasts R x P := ⟨fun k hk => Nat.lt_of_lt_of_le (h.1 k hk) hs.2, fun y hy => h.2 y (hs.trans hy)⟩
theorem Lasts.mono {R R' : Foot} {w : World} {P : World → Prop} (h : Lasts R w P) (hR : ∀ k, R k → R' k) (hl : ∀ k, R' k → k < w.heap.size) : Lasts R' w P := ⟨hl, fun x hx => h.2 x (hx.mono hR)⟩
structure RowsK (w : World) (R : Foot) (v : Value) (rows : List RowP) : Prop where
  ex : ∃ L : List (Value × RowP), L.map Prod.snd = rows ∧ OwnX 188 5 rowC w 0 v L ∧ ∀ x ∈ L, OwnX 3 1 natV w 0 x.1 x.2.parents ∧ (∀ b, x.1.ownBlock = some b → R b ∧ v.ownBlock ≠ some b)
  own : ∀ g, v.ownBlock = some g → R g
  lt : ∀ k, R k → k < w.heap.size
theorem RowsK.nil (w : World) : RowsK w (fun _ => False) (.slice none 0 0) [] := ⟨⟨[], rfl, OwnX.nil _ _ _ _ _, by simp⟩, by simp [Value.ownBlock], fun _ h => h.elim⟩
theorem RowsK.stays {w x : World} {R : Foot} {v : Value} {rows : List RowP} (h : RowsK w R v rows) (hs : Stays R w x) : RowsK x R v rows := by
  obtain ⟨⟨L, h1, h2, h3⟩, h4, h5⟩ := h
  exact ⟨⟨L, h1, h2.stays fun g e => hs.1 g (h4 g e), fun y hy => ⟨(h3 y hy).1.stays fun g e => hs.1 g ((h3 y hy).2 g e).1, (h3 y hy).2⟩⟩, h4, fun k hk => Nat.lt_of_lt_of_le (h5 k hk) hs.2⟩
theorem RowsK.at {w : World} {R : Foot} {v : Value} {rows : List RowP} (h : RowsK w R v rows) : ∃ a c, v = .slice a rows.length c ∧ RowsAt w a rows ∧ rows.length ≤ c ∧ c ≤ maxLen := by
  obtain ⟨⟨L, rfl, h2, h3⟩, _, _⟩ := h
  obtain ⟨a, c, h5, h6, h7, h8, _⟩ := h2.sl
  rw [List.length_map]
  exact ⟨a, c, h5, ⟨L, rfl, h6, fun x hx => ParAt.own (h3 x hx).1⟩, h7, h8⟩
theorem RowsK.kept {w : World} {R : Foot} {v : Value} {rows : List RowP} (h : RowsK w R v rows) : ∃ a c, v = .slice a rows.length c ∧ Lasts R w (fun x => RowsAt x a rows) ∧ rows.length ≤ c ∧ c ≤ maxLen := by
  obtain ⟨a, c, h1, _, h3, h4⟩ := h.at
  refine ⟨a, c, h1, ⟨h.lt, fun x hx => ?_⟩, h3, h4⟩
  obtain ⟨a', c', k1, k2, _, _⟩ := (h.stays hx).at
  rw [h1] at k1
  cases k1
  exact k2
theorem RowsK.row {w : World} {R : Foot} {v : Value} {rows : List RowP} (h : RowsK w R v rows) : ∃ xs, w.ownsRow 0 188 5 v rows.length xs ∧ ∀ (w1 : World) (gg cap : Nat) (pv : Value) (r : RowP) (x : World), Below w.heap.size w x → OwnX 3 1 natV x 0 pv r.parents → (∀ b, pv.ownBlock = some b → b < x.heap.size ∧ ¬ R b) →
    w1.ownsRow 0 188 5 (.slice (some ⟨gg, 0, none⟩) (rows.length + 1) cap) (rows.length + 1) (xs ++ rowC (pv, r)) → x.grownBy w1 v.ownBlock → (v.ownBlock = some gg ∨ x.heap.size ≤ gg) → gg < w1.heap.size →
    RowsK w1 (fun k => R k ∨ pv.ownBlock = some k ∨ k = gg) (.slice (some ⟨gg, 0, none⟩) (rows.length + 1) cap) (rows ++ [r]) := by
  obtain ⟨⟨L, rfl, h2, h3⟩, h4, h5⟩ := h
  refine ⟨L.flatMap rowC, by rw [List.length_map]; exact h2, fun w1 gg cap pv r x hx hp hpR hown hg hat hlt => ?_⟩
  rw [List.length_map] at hown ⊢
  have hxz := hx.size
  have hgz := hg.size
  refine ⟨⟨L ++ [(pv, r)], by simp, OwnX.push (m := [(pv, r)]) hown rfl (by simp), fun y hy => ?_⟩, fun g e => by cases e; exact .inr (.inr rfl), fun k hk => ?_⟩
  · rcases List.mem_append.1 hy with hy | hy
    · obtain ⟨k1, k2⟩ := h3 y hy
      have hst : ∀ g, y.1.ownBlock = some g → w1.heap[g]? = w.heap[g]? := fun g e => by
        have hgl := h5 g (k2 g e).1
        rw [hg.block g (by omega) (fun e2 => (k2 g e).2 e2.symm), hx.block g hgl]
      refine ⟨k1.stays hst, fun b e => ⟨.inl (k2 b e).1, fun e2 => ?_⟩⟩
      rcases hat with e3 | e3
      · exact (k2 b e).2 (e3.trans e2)
      · have := h5 b (k2 b e).1
        have e4 : gg = b := by simpa [Value.ownBlock] using e2
        omega
    · rw [List.mem_singleton] at hy
      subst hy
      have hnv : ∀ b, pv.ownBlock = some b → v.ownBlock ≠ some b := fun b e e2 => (hpR b e).2 (h4 b e2)
      refine ⟨hp.stays fun g e => hg.block g (hpR g e).1 (fun e2 => hnv g e e2.symm), fun b e => ⟨.inr (.inl e), fun e2 => ?_⟩⟩
      rcases hat with e3 | e3
      · exact hnv b e (e3.trans e2)
      · have := (hpR b e).1
        have e4 : gg = b := by simpa [Value.ownBlock] using e2
        omega
  · rcases hk with hk | hk | rfl
    · have := h5 k hk; omega
    · have := (hpR k hk).1; omega
    · exact hlt
end Go.Proofs.YtbhfbdcmamodcaaGreatDoor
namespace Go.Proofs.YtbhfbdcmamodcaaGreatDoor
open Go.RowKit Go.Maps TrMath FrMath PackMath
theorem infoRowX : (Tryz.prog.info? 188).map (fun i => (i.zero, i.size, i.bytes)) = some (some (.agg #[.slice none 0 0, .int .i64 0, .int .i64 0, .int .i64 0, .string ⟨#[]⟩]), 5, 64) := by kernel_rfl
theorem infoIntX : (Tryz.prog.info? 3).map (fun i => (i.zero, i.size, i.bytes)) = some (some (.int .i64 0), 1, 8) := by kernel_rfl
theorem GoodS.treeOk {ts : List Ents} {cs : List ComP} (h : GoodS ts cs) {k : Nat} (hk : k < cs.length) : GoodT (treeOf ts cs k) := by
  obtain ⟨c, hc, _, _, ht⟩ := h.com hk
  have e : (cs.getD k ([], 0)).2 = c.2 := by rw [List.getD_eq_getElem?_getD, hc]; rfl
  unfold treeOf
  rw [e, List.getD_eq_getElem?_getD, List.getElem?_eq_getElem ht]
  exact h.trees _ (List.getElem_mem ht)
theorem goodT_nil : GoodT [] := ⟨Good.nil, fun _ h => by simp at h, by simp⟩
def upTo (cs : List ComP) (n : Nat) (ps : List Nat) (i : Nat) : List Nat := (ps.take i).map fun p => (gensN cs n).getD p 0
def oldTo (ts : List Ents) (cs : List ComP) (ps : List Nat) (i : Nat) : Ents := if i = 0 then [] else treeOf ts cs (ps.getD 0 0)
theorem gensN_succ (cs : List ComP) (n : Nat) : gensN cs (n + 1) = gensN cs n ++ [genAt cs n] := by rw [genAt_eq]; rfl
theorem row_one (a : Option Addr) (n c t g st : Nat) (bb : ByteArray) : ∀ u ∈ [Value.slice a n c, .int .i64 (t : Nat), .int .i64 (g : Nat), .int .i64 (st : Nat), .string bb], u.oneCell' = true := by
  intro u hu
  simp at hu
  rcases hu with rfl | rfl | rfl | rfl | rfl <;> rfl
theorem own_last {w : World} {B g c n : Nat} {l : List Nat} {x : Nat} (h : OwnX 3 1 natV w B (.slice (some ⟨g, 0, none⟩) (n + 1) c) (l ++ [x])) (hl : l.length = n) : w.cell? ⟨g, n, none⟩ = some (.int .i64 (x : Nat)) := by
  obtain ⟨a, c', h1, h2, _⟩ := h.sl
  obtain ⟨b, off, e1, _, e3⟩ := nat_cells h2 (k := n) (by simp; omega)
  subst e1
  have h3 := (Value.slice.inj h1).1
  cases h3
  rw [Nat.zero_add] at e3
  rw [e3]
  subst hl
  simp
abbrev filO : Obj := .cells #[.int .i64 0, .string ⟨#[]⟩] 183
structure FilB (wq w8 : World) (b st : Nat) (bb : ByteArray) : Prop where
  bel : Below wq.heap.size wq w8
  ge : wq.heap.size ≤ b
  c0 : w8.cell? ⟨b, 0, none⟩ = some (.int .i64 (st : Nat))
  c1 : w8.cell? ⟨b, 1, none⟩ = some (.string bb)
theorem filA {wq w6 : World} (h : Below (wq.alloc filO).drew.heap.size (wq.alloc filO).drew w6) : w6.heap[wq.heap.size]? = some filO ∧ wq.heap.size ≤ wq.heap.size := ⟨(h.block _ (by show _ < (wq.alloc filO).heap.size; simp)).trans (heap_alloc_new wq _), Nat.le_refl _⟩
theorem filBt {wq w6 w7 : World} (h : Below (w6.alloc filO).heap.size (w6.alloc filO) w7) (hb : Below wq.heap.size wq w6) : w7.heap[w6.heap.size]? = some filO ∧ wq.heap.size ≤ w6.heap.size := ⟨(h.block _ (by simp)).trans (heap_alloc_new w6 _), hb.size⟩
theorem filC {wq w6 w7 : World} {b : Nat} (h : Below w6.heap.size w6 w7) (k : w6.heap[b]? = some filO ∧ wq.heap.size ≤ b) : w7.heap[b]? = some filO ∧ wq.heap.size ≤ b := ⟨(h.block _ (Array.getElem?_eq_some_iff.1 k.1).1).trans k.1, k.2⟩
theorem finNew {wq w7 : World} {st : Nat} {bb : ByteArray} (h : Below wq.heap.size wq w7) : FilB wq (w7.alloc (.cells #[.int .i64 (st : Nat), .string bb] 183)) w7.heap.size st bb :=
  ⟨bl_alloc h _, h.size, allocL_cells _ rfl rfl, allocL_cells _ rfl rfl⟩
theorem finSet {wq w7 : World} {b st : Nat} {bb : ByteArray} (h : Below wq.heap.size wq w7) (k : w7.heap[b]? = some filO ∧ wq.heap.size ≤ b) : FilB wq ((w7.setCell ⟨b, 0, none⟩ (.int .i64 (st : Nat))).setCell ⟨b, 1, none⟩ (.string bb)) b st bb := by
  obtain ⟨z0, z1, _, z3⟩ := two_done (x := .int .i64 (st : Nat)) (y := .string bb) k.1
  exact ⟨z3 _ _ k.2 h, k.2, z0, z1⟩
theorem fil_cells {w : World} {b : Nat} (h : w.heap[b]? = some filO) : w.cell? ⟨b, 0, none⟩ = some (.int .i64 0) ∧ w.cell? ⟨b, 1, none⟩ = some (.string ⟨#[]⟩) ∧ w.frozen? ⟨b, 0, none⟩ = false ∧ w.frozen? ⟨b, 1, none⟩ = false := two_cells h
set_option maxHeartbeats 8000000 in
set_option maxRecDepth 100000 in
theorem xRows {w : World} {s : Nat} {S : StoreS} (h : StoreAt w s S) (ts : List Ents) (cs : List ComP) (hts : S.trees.map Prod.snd = ts) (hcs : S.commits.map Prod.snd = cs) (hg : GoodS ts cs) (Q : SetP) (hQ : Q.S < 4294967296) (k0 : Nat) (hk : k0 ≤ cs.length) (ka : Option Addr) (kc : Nat)
    (hK : CellsAt w ka ((gensN cs k0).flatMap natV)) :
    Calls Tryz.prog 42 #[srcV s, .agg #[.int .i64 (Q.H : Nat), .int .i64 (Q.P : Nat), .int .i64 (Q.M : Nat), .int .u32 (Q.S : Nat)], .slice ka k0 kc] w fun e w' => ∃ v R, e = .returned v ∧ RowsK w' R v (rowsFrom Q ts cs k0 (cs.length - k0)) ∧ (∀ k, R k → w.heap.size ≤ k) ∧ Below w.heap.size w w' := by
  obtain ⟨N, hN⟩ : ∃ N, cs.length = N := ⟨_, rfl⟩
  have hlen : S.commits.length = N := by rw [← hN, ← hcs, List.length_map]
  have hNs : N ≤ 10000 := by rw [← hN]; exact hg.few
  rw [hN] at hk
  rw [hN]
  obtain ⟨i0, hi, hz0, hz1, hz2⟩ := info_parts infoIntX
  obtain ⟨j0, hj, hj0, hj1, hj2⟩ := info_parts infoRowX
  obtain ⟨W1, hW1⟩ : ∃ W1, w.alloc (.cells #[.int .i64 (Q.H : Nat), .int .i64 (Q.P : Nat), .int .i64 (Q.M : Nat), .int .u32 (Q.S : Nat)] 49) = W1 := ⟨_, rfl⟩
  have hb1 : Below w.heap.size w W1 := by rw [← hW1]; exact bl_alloc (Below.refl _ w) _
  have hs1 : W1.heap[w.heap.size]? = some (.cells #[.int .i64 (Q.H : Nat), .int .i64 (Q.P : Nat), .int .i64 (Q.M : Nat), .int .u32 (Q.S : Nat)] 49 (0, 0)) := by rw [← hW1]; exact heap_alloc_new _ _
  have hkl := gensN_len cs k0
  have HCl := Lib.hid (show Calls Tryz.prog 39 #[.slice ka k0 kc] W1 fun e w' => ∃ v', e = .returned v' ∧ OwnX 3 1 natV w' W1.heap.size v' (gensN cs k0) ∧ Below W1.heap.size W1 w' from by
    have := kCloneInt (gensN cs k0) ka kc (by rw [hkl]; omega) W1 (hK.below hb1)
    rwa [hkl] at this)
  have HCs := Lib.hid (show ∀ W, Below W1.heap.size W1 W → Calls Tryz.prog 15 #[.pointer (some ⟨s, 0, none⟩)] W fun e w' => e = .returned (.int .i64 (N : Nat)) ∧ w' = W from fun W hW => by
    have := sCommits ((h.below hb1).below hW)
    rwa [hlen] at this)
  have HCo := Lib.hid (show ∀ W, Below W1.heap.size W1 W → ∀ k ps t, cs[k]? = some (ps, t) → ps.length ≤ 16 → Calls Tryz.prog 290 #[.pointer (some ⟨s, 0, none⟩), .int .i64 (k : Nat)] W fun e w' => ∃ v, e = .returned (.tuple #[.agg #[v, .int .i64 (t : Nat)], .int .i64 0]) ∧ OwnX 3 1 natV w' W.heap.size v ps ∧ Below W.heap.size W w' from
    fun W hW k ps t hkc hpl => sCommit ((h.below hb1).below hW) k ps t (by rw [hcs]; exact hkc) (by omega) (by omega))
  have HCt := Lib.hid (show ∀ W, Below W1.heap.size W1 W → ∀ k, k < N → Calls Tryz.prog 99 #[srcV s, .int .i64 (k : Nat)] W fun e w' => ∃ v, e = .returned v ∧ Own w' W.heap.size v (treeOf ts cs k) ∧ Below W.heap.size W w' from
    fun W hW k hkN => by
      have := xContent ((h.below hb1).below hW) (by rw [hts, hcs]; exact hg) k (by rw [hlen]; exact hkN)
      rwa [hts, hcs] at this)
  have HG := Lib.hid (show ∀ k, k < N → ∃ ps t, cs[k]? = some (ps, t) ∧ ps.length ≤ 16 ∧ (∀ p ∈ ps, p < k) ∧ cs.getD k ([], 0) = (ps, t) from fun k hkN => by
    obtain ⟨c, hc, hgc, hlow, _⟩ := hg.com (k := k) (by omega)
    exact ⟨c.1, c.2, hc, hgc.few, hlow, by rw [List.getD_eq_getElem?_getD, hc]; rfl⟩)
  have HGT := Lib.hid (show ∀ k, k < N → GoodT (treeOf ts cs k) from fun k hkN => hg.treeOk (by omega))
  have HW1 := Lib.hid hW1; have HB1 := Lib.hid hb1; have HS1 := Lib.hid hs1
  have hm1 := mCommits
  have hm2 := mCommit
  clear h hts hcs hg hK hW1 hb1 hs1 hkl hlen hN
  unfold srcV at HCt ⊢
  go_enter Tryz.func42, Tryz.ntmps42
  go_wp2_with fail
  rw [HW1.out]
  (with_reducible refine HCl.out.mono ?_)
  rintro e w2 ⟨a2, rfl, ho, hb⟩
  obtain ⟨x2, y2, rfl, _, _, _, _, _⟩ := OwnX.sl ho
  have HO2 := Lib.hid ho; have HB2 := Lib.hid hb
  clear ho hb
  go_wp2_with fail
  go_loopw [7, 8, 9] (fun ov av nv wr => ∃ (n : Nat) (o a : Value) (R : Foot), o = ov ∧ a = av ∧ k0 ≤ n ∧ n ≤ N ∧ nv = .int .i64 n ∧ OwnX 3 1 natV wr W1.heap.size a (gensN cs n) ∧ RowsK wr R o (rowsFrom Q ts cs k0 (n - k0)) ∧ (∀ k, R k → W1.heap.size ≤ k) ∧ (∀ b, a.ownBlock = some b → ¬ R b) ∧ Below W1.heap.size W1 wr) (fun _ _ nv _ => N - (intOf nv).toNat)
  case atStart => exact ⟨k0, _, _, _, rfl, rfl, Nat.le_refl _, hk, rfl, HO2.out, by rw [Nat.sub_self]; exact RowsK.nil _, fun _ h => h.elim, fun _ _ h => h, HB2.out⟩
  case round =>
    obtain ⟨n, o, a, R, ho, ha, hkn, hnN, rfl, hown, hrows, hRB, hRa, hbel⟩ := hrel
    subst ho; subst ha
    have HO := Lib.hid hown; have HR := Lib.hid hrows; have HRB := Lib.hid hRB; have HRA := Lib.hid hRa; have HB := Lib.hid hbel
    clear hown hrows hRB hRa hbel
    go_wp2_with fail
    (with_reducible refine (HCs.out _ HB.out).mono ?_)
    rintro e w3 ⟨rfl, rfl⟩
    have hgl := gensN_len cs n
    obtain ⟨xa, ya, hsa, hca, hla, hma, _, _⟩ := HO.out.sl
    rw [hgl] at hsa hla
    subst hsa
    have HCA := Lib.hid hca
    clear hca
    by_cases hlt : n < N
    · obtain ⟨ps, t, hcn, hp16, hplow, hgd⟩ := HG.out n hlt
      have HCN := Lib.hid hcn; have HPL := Lib.hid hplow; have HGD := Lib.hid hgd
      have HCn := Lib.hid (HCo.out w3 HB.out n ps t hcn hp16)
      clear hcn hplow hgd
      go_wp2_with fail
      (with_reducible refine HCn.out.mono ?_)
      rintro e w4 ⟨pv, rfl, ho, hb⟩
      obtain ⟨pa, pc, rfl, hpc, _, _, _, _⟩ := OwnX.sl ho
      have HPV := Lib.hid ho; have HB4 := Lib.hid (HB.out.trans (hb.mono HB.out.size)); have HBs := Lib.hid hb; have HPC := Lib.hid hpc
      clear ho hb hpc
      have HB5 := Lib.hid (bl_alloc HB4.out (.cells #[.slice pa ps.length pc, .int .i64 (t : Nat)] 45))
      have h5 : (w4.alloc (.cells #[.slice pa ps.length pc, .int .i64 (t : Nat)] 45)).heap[w4.heap.size]? = some (.cells #[.slice pa ps.length pc, .int .i64 (t : Nat)] 45 (0, 0)) := heap_alloc_new _ _
      have H5 := Lib.hid h5
      have HPC5 := Lib.hid (HPC.out.below (bl_alloc (Below.refl _ w4) (.cells #[.slice pa ps.length pc, .int .i64 (t : Nat)] 45)))
      have HPV5 := Lib.hid (HPV.out.below (bl_alloc (Below.refl _ w4) (.cells #[.slice pa ps.length pc, .int .i64 (t : Nat)] 45)))
      have HB35 := Lib.hid (bl_alloc HBs.out (.cells #[.slice pa ps.length pc, .int .i64 (t : Nat)] 45))
      clear h5
      go_wp2
      generalize w4.alloc (.cells #[.slice pa ps.length pc, .int .i64 (t : Nat)] 45) = w5 at *
      have HCA5 := Lib.hid (HCA.out.below HB35.out)
      go_loopw [12, 13, 37] (fun oldv upv iv wq => ∃ (i : Nat) (u o' : Value), u = upv ∧ o' = oldv ∧ i ≤ ps.length ∧ iv = .int .i64 i ∧ OwnX 3 1 natV wq w5.heap.size u (upTo cs n ps i) ∧ Own wq w5.heap.size o' (oldTo ts cs ps i) ∧ (∀ b, o'.ownBlock = some b → u.ownBlock ≠ some b) ∧ Below w5.heap.size w5 wq) (fun _ _ iv _ => ps.length - (intOf iv).toNat)
      case atStart => exact ⟨0, _, _, rfl, rfl, Nat.zero_le _, rfl, OwnX.nil _ _ _ _ _, Own.nil _ _, fun b e => by simp [Value.ownBlock] at e, Below.refl _ _⟩
      case round =>
        obtain ⟨i, u, o', hu, ho', hi2, rfl, hown, hold, hdis, hbel⟩ := hrel
        subst hu; subst ho'
        obtain ⟨wq, hwq⟩ : ∃ wq : World, wq = wr := ⟨_, rfl⟩
        subst hwq
        have HU := Lib.hid hown; have HOL := Lib.hid hold; have HDI := Lib.hid hdis; have HBq := Lib.hid hbel
        clear hown hold hdis hbel
        by_cases hlp : i < ps.length
        · obtain ⟨pb, po, rfl, _, p1⟩ := nat_cells (HPC5.out.below HBq.out) hlp
          have hpn := HPL.out _ (List.getElem_mem hlp)
          have HUS := Lib.hid (show upTo cs n ps (i + 1) = upTo cs n ps i ++ [(gensN cs n).getD ps[i] 0] from by unfold upTo; rw [List.take_succ_eq_append_getElem hlp, List.map_append]; rfl)
          have HOS := Lib.hid (show i ≠ 0 → oldTo ts cs ps (i + 1) = oldTo ts cs ps i from fun h => by unfold oldTo; rw [if_neg (by omega), if_neg h])
          have HO0 := Lib.hid (show i = 0 → oldTo ts cs ps (i + 1) = treeOf ts cs ps[i] from fun h => by subst h; unfold oldTo; rw [if_neg (by omega), List.getD_eq_getElem?_getD, List.getElem?_eq_getElem hlp]; rfl)
          have HUL := Lib.hid (show (upTo cs n ps i).length = i from by unfold upTo; rw [List.length_map, List.length_take]; omega)
          have hgk : ps[i] < (gensN cs n).length := by rw [gensN_len]; exact hpn
          obtain ⟨gb, go, rfl, _, g1⟩ := nat_cells (HCA5.out.below HBq.out) hgk
          have HGV := Lib.hid (show (gensN cs n).getD ps[i] 0 = (gensN cs n)[ps[i]] from by rw [List.getD_eq_getElem?_getD, List.getElem?_eq_getElem hgk]; rfl)
          obtain ⟨gv, hgv⟩ : ∃ gv, (gensN cs n)[ps[i]] = gv := ⟨_, rfl⟩
          rw [hgv] at g1 HGV
          rw [HGV.out] at HUS
          obtain ⟨pp, hpp⟩ : ∃ pp, ps[i] = pp := ⟨_, rfl⟩
          rw [hpp] at p1 hpn g1 HO0
          clear hgv hpp hgk HGV
          have d1 : decide ((pp : Int) < 0) = false := by simp
          have d2 : decide ((pp : Int) ≥ (n : Int)) = false := by simp; omega
          have d3 : decide (n ≤ pp) = false := by simp; omega
          by_cases hi0 : i = 0
          · have hiz : ((i : Int) == 0) = true := by simp; omega
            have HI0 := Lib.hid hi0
            clear hi0
            have hBW : Below W1.heap.size W1 wq := HB5.out.trans (HBq.out.mono HB5.out.size)
            have HCt2 := Lib.hid (HCt.out _ hBW pp (by omega))
            clear hBW
            go_wp2_with fail
            (with_reducible refine HCt2.out.mono ?_)
            rintro e w6 ⟨o6, rfl, ho, hb⟩
            have HOL6 := Lib.hid (ho.mono HBq.out.size); have HU6 := Lib.hid (HU.out.below hb); have HBq6 := Lib.hid (HBq.out.trans (hb.mono HBq.out.size))
            have HDI6 := Lib.hid (show ∀ b, o6.ownBlock = some b → u.ownBlock ≠ some b from fun b e e2 => by have := (ho.lt b e).1; have := (HU.out.lt b e2).2; omega)
            have g1' := bl_cell hb g1
            clear ho hb g1
            go_wp2_with (at_builtin; refine wpList_append_lies _ rfl (.tmp 56) (.tmp 61) 42 rfl w5.heap.size 3 i0 (.int .i64 0) 1 8 Tryz.underlying42 hi hz0 hz1 hz2 rfl (by decide) u (upTo cs n ps i).length ((upTo cs n ps i).flatMap natV) rfl (HU6.out.below (bl_alloc (Below.refl _ w6) _)) _ 1 1 [.int .i64 (gv : Nat)] rfl rfl (cells_new w6 [.int .i64 (gv : Nat)] _ rfl) (by intro u hu; rw [List.mem_singleton.1 hu]; rfl) (by decide) (by rw [HUL.out]; unfold maxLen; omega) (by rw [HUL.out]; omega) (by have := HBq6.out.size; simp; omega) _ rfl ?_; intro gg cp w7 hown hg hat hlt7; have HU7 := Lib.hid (OwnX.push (enc := natV) (m := [gv]) hown rfl rfl); have HG7 := Lib.hid hg; have HAT := Lib.hid hat; clear hown hg hat hlt7)
            have HO7 := Lib.hid (show Own w7 w5.heap.size o6 (oldTo ts cs ps (i + 1)) from by rw [HO0.out HI0.out]; exact HOL6.out.keep fun g e => (HG7.out.block g (by have := (HOL6.out.lt g e).2; simp; omega) (fun e2 => HDI6.out g e e2.symm)).trans (Below.heap_alloc _ _ _ (HOL6.out.lt g e).2))
            have HD7 := Lib.hid (show ∀ b, o6.ownBlock = some b → (Value.slice (some ⟨gg, 0, none⟩) ((upTo cs n ps i).length + 1) cp).ownBlock ≠ some b from fun b e e2 => by
              have e3 : gg = b := by simpa [Value.ownBlock] using e2
              have hl := (HOL6.out.lt b e).2
              rcases HAT.out with h | h
              · exact HDI6.out b e (by rw [h, e3])
              · simp at h; omega)
            have HB7 := Lib.hid (bel_grown HBq6.out HBq6.out.size (bl_alloc (Below.refl _ w6) _) HG7.out (fun j hj => (HU6.out.lt j hj).1))
            go_roundw
            case rel => exact ⟨i + 1, _, _, rfl, rfl, by omega, by go_num, by rw [HUS.out]; exact HU7.out, HO7.out, HD7.out, HB7.out⟩
            case measure => simp [intOf]; omega
          · have hiz : ((i : Int) == 0) = false := by simp; omega
            have HI0 := Lib.hid hi0
            clear hi0
            go_wp2_with (at_builtin; refine wpList_append_lies _ rfl (.tmp 56) (.tmp 61) 42 rfl w5.heap.size 3 i0 (.int .i64 0) 1 8 Tryz.underlying42 hi hz0 hz1 hz2 rfl (by decide) u (upTo cs n ps i).length ((upTo cs n ps i).flatMap natV) rfl (HU.out.below (bl_alloc (Below.refl _ wq) _)) _ 1 1 [.int .i64 (gv : Nat)] rfl rfl (cells_new wq [.int .i64 (gv : Nat)] _ rfl) (by intro u hu; rw [List.mem_singleton.1 hu]; rfl) (by decide) (by rw [HUL.out]; unfold maxLen; omega) (by rw [HUL.out]; omega) (by have := HBq.out.size; simp; omega) _ rfl ?_; intro gg cp w7 hown hg hat hlt7; have HU7 := Lib.hid (OwnX.push (enc := natV) (m := [gv]) hown rfl rfl); have HG7 := Lib.hid hg; have HAT := Lib.hid hat; clear hown hg hat hlt7)
            have HO7 := Lib.hid (show Own w7 w5.heap.size o' (oldTo ts cs ps (i + 1)) from by rw [HOS.out HI0.out]; exact HOL.out.keep fun g e => (HG7.out.block g (by have := (HOL.out.lt g e).2; simp; omega) (fun e2 => HDI.out g e e2.symm)).trans (Below.heap_alloc _ _ _ (HOL.out.lt g e).2))
            have HD7 := Lib.hid (show ∀ b, o'.ownBlock = some b → (Value.slice (some ⟨gg, 0, none⟩) ((upTo cs n ps i).length + 1) cp).ownBlock ≠ some b from fun b e e2 => by
              have e3 : gg = b := by simpa [Value.ownBlock] using e2
              have hl := (HOL.out.lt b e).2
              rcases HAT.out with h | h
              · exact HDI.out b e (by rw [h, e3])
              · simp at h; omega)
            have HB7 := Lib.hid (bel_grown HBq.out HBq.out.size (bl_alloc (Below.refl _ wq) _) HG7.out (fun j hj => (HU.out.lt j hj).1))
            go_roundw
            case rel => exact ⟨i + 1, _, _, rfl, rfl, by omega, by go_num, by rw [HUS.out]; exact HU7.out, HO7.out, HD7.out, HB7.out⟩
            case measure => simp [intOf]; omega
        · obtain rfl : i = ps.length := by omega
          have HUP := Lib.hid (show nextG (upTo cs n ps ps.length) = genAt cs n from by rw [genAt_eq, HGD.out]; unfold upTo; rw [List.take_length])
          have HUS := Lib.hid (show ∀ x ∈ upTo cs n ps ps.length, 1 ≤ x ∧ x ≤ 1023 from fun x hx => by
            unfold upTo at hx
            rw [List.take_length] at hx
            obtain ⟨p, hp, rfl⟩ := List.mem_map.1 hx
            have hpn : p < (gensN cs n).length := by rw [gensN_len]; exact HPL.out p hp
            rw [List.getD_eq_getElem?_getD, List.getElem?_eq_getElem hpn]
            exact gensN_small cs n _ (List.getElem_mem hpn))
          have HUL := Lib.hid (show (upTo cs n ps ps.length).length ≤ 16 from by unfold upTo; rw [List.length_map, List.take_length]; exact hp16)
          have hold2 : oldTo ts cs ps ps.length = oldOf ts cs n := by
            unfold oldTo oldOf
            rw [HGD.out]
            cases ps with
            | nil => rfl
            | cons p r => rfl
          have hga : GoodT (oldOf ts cs n) := by
            rw [← hold2]
            unfold oldTo
            split
            · exact goodT_nil
            · rename_i hne
              refine HGT.out _ ?_
              have : 0 < ps.length := by omega
              rw [List.getD_eq_getElem?_getD, List.getElem?_eq_getElem this]
              have := HPL.out _ (List.getElem_mem this)
              show ps[0] < N
              omega
          have hgb := HGT.out n hlt
          have HFI := Lib.hid (show filN Q ts cs n = (makeR (Q.H : Int) (Q.P : Int) (Q.M : Int) Q.S (pathsL (diffL (oldOf ts cs n) (treeOf ts cs n)))).2 from rfl)
          have hold3 := HOL.out
          rw [hold2] at hold3
          obtain ⟨A, hA⟩ : ∃ A, oldOf ts cs n = A := ⟨_, rfl⟩
          obtain ⟨B, hB⟩ : ∃ B, treeOf ts cs n = B := ⟨_, rfl⟩
          have hct := fun W hW => HCt.out W hW n hlt
          rw [hA] at hga HFI hold3
          rw [hB] at hgb HFI hct
          obtain ⟨oa, oc, rfl, hea, hoc1, hoc2⟩ := Own.at hold3
          obtain ⟨er, st, bb, hR⟩ : ∃ er st bb, makeR (Q.H : Int) (Q.P : Int) (Q.M : Int) Q.S (pathsL (diffL A B)) = (er, (st, bb)) := ⟨_, _, _, rfl⟩
          rw [hR] at HFI
          have hal := hga.len; have hbl := hgb.len
          have HEA := Lib.hid hea
          have HOF := Lib.hid (show ∀ W b d, B.length ≤ d → d ≤ maxLen → Below wq.heap.size wq W → EnAt W b B → Calls Tryz.prog 100 #[.agg #[.int .i64 (Q.H : Nat), .int .i64 (Q.P : Nat), .int .i64 (Q.M : Nat), .int .u32 (Q.S : Nat)], .slice oa A.length oc, .slice b B.length d] W fun e w' => e = .returned (.tuple #[.agg #[.int .i64 (st : Nat), .string bb], .int .i64 (er : Nat)]) ∧ Below W.heap.size W w' from fun W b d h1 h2 hW h3 => by
            have := bOf (Q.H : Int) (Q.P : Int) (Q.M : Int) Q.S hQ A B hga.good hgb.good oa b oc d hoc1 h1 hoc2 h2 (by omega) W (HEA.out.below hW) h3
            rw [hR] at this
            exact this)
          obtain ⟨ua, uc, rfl, hcu, _, _, _, _⟩ := OwnX.sl HU.out
          have HNA := Lib.hid (show NumsAt wq ua (upTo cs n ps ps.length) from fun j hj => nat_cells hcu hj)
          have HNx := Lib.hid (show ∀ W, Below wq.heap.size wq W → Calls Tryz.prog 101 #[.slice ua (upTo cs n ps ps.length).length uc] W fun e w' => e = .returned (.int .i64 (genAt cs n : Nat)) ∧ w' = W from fun W hW => by
            have := gNext (upTo cs n ps ps.length) HUS.out (by have := HUL.out; omega) ua uc W (HNA.out.below hW)
            rw [HUP.out] at this
            exact this)
          have HBW := Lib.hid (HB5.out.trans (HBq.out.mono HB5.out.size))
          have HCtn := Lib.hid (fun W (hW : Below wq.heap.size wq W) => hct W (HBW.out.trans (hW.mono HBW.out.size)))
          have HSC := Lib.hid (show ∀ W, Below wq.heap.size wq W → W.cell? ⟨w.heap.size, 0, none⟩ = some (.int .i64 (Q.H : Nat)) ∧ W.cell? ⟨w.heap.size, 1, none⟩ = some (.int .i64 (Q.P : Nat)) ∧ W.cell? ⟨w.heap.size, 2, none⟩ = some (.int .i64 (Q.M : Nat)) ∧ W.cell? ⟨w.heap.size, 3, none⟩ = some (.int .u32 (Q.S : Nat)) from fun W hW => by
            have hbb := HBW.out.trans (hW.mono HBW.out.size)
            have := (hbb.block _ (Array.getElem?_eq_some_iff.1 HS1.out).1).trans HS1.out
            exact ⟨by rw [cell_of_row _ _ _ _ _ _ this]; rfl, by rw [cell_of_row _ _ _ _ _ _ this]; rfl, by rw [cell_of_row _ _ _ _ _ _ this]; rfl, by rw [cell_of_row _ _ _ _ _ _ this]; rfl⟩)
          obtain ⟨q0, q1, q2, q3⟩ := HSC.out wq (Below.refl _ _)
          have q0a : ∀ o, (wq.alloc o).cell? ⟨w.heap.size, 0, none⟩ = some (.int .i64 (Q.H : Nat)) := fun o => cell_al q0 o
          have q1a : ∀ o, (wq.alloc o).cell? ⟨w.heap.size, 1, none⟩ = some (.int .i64 (Q.P : Nat)) := fun o => cell_al q1 o
          have q2a : ∀ o, (wq.alloc o).cell? ⟨w.heap.size, 2, none⟩ = some (.int .i64 (Q.M : Nat)) := fun o => cell_al q2 o
          have q3a : ∀ o, (wq.alloc o).cell? ⟨w.heap.size, 3, none⟩ = some (.int .u32 (Q.S : Nat)) := fun o => cell_al q3 o
          clear hold2 hold3 hga hgb hA hB hct hea hR hcu
          go_wp2_with fail
          go_region_law (first
            | (go_simp; go_at_call 99; (with_reducible refine (HCtn.out _ (by first | exact bl_drew (Below.refl _ wq) | exact bl_drew (bl_alloc (Below.refl _ wq) _))).mono ?_); rintro e w6 ⟨v6, rfl, ho, hb⟩; obtain ⟨ba, bc, rfl, heb, hbc1, hbc2⟩ := Own.at ho; have HEB := Lib.hid heb; have HB6 := Lib.hid (show Below wq.heap.size wq w6 from by first | exact bl_trans (bl_drew (Below.refl _ wq)) hb | exact bl_trans (bl_drew (bl_alloc (Below.refl _ wq) _)) hb); (first | (have FB6 := Lib.hid (filA hb)) | (have FB6 := Lib.hid True.intro)); obtain ⟨r0, r1, r2, r3⟩ := HSC.out w6 HB6.out; have r0a : ∀ o, (w6.alloc o).cell? ⟨w.heap.size, 0, none⟩ = some (.int .i64 (Q.H : Nat)) := (fun o => cell_al r0 o); have r1a : ∀ o, (w6.alloc o).cell? ⟨w.heap.size, 1, none⟩ = some (.int .i64 (Q.P : Nat)) := (fun o => cell_al r1 o); have r2a : ∀ o, (w6.alloc o).cell? ⟨w.heap.size, 2, none⟩ = some (.int .i64 (Q.M : Nat)) := (fun o => cell_al r2 o); have r3a : ∀ o, (w6.alloc o).cell? ⟨w.heap.size, 3, none⟩ = some (.int .u32 (Q.S : Nat)) := (fun o => cell_al r3 o); clear ho hb heb)
            | (go_simp; go_at_call 100; (with_reducible refine (HOF.out _ ba bc hbc1 hbc2 (by first | exact HB6.out | exact bl_alloc HB6.out _) (by first | exact HEB.out | exact HEB.out.below (bl_alloc (Below.refl _ w6) _))).mono ?_); rintro e w7 ⟨rfl, hb7⟩; have HB7 := Lib.hid (show Below wq.heap.size wq w7 from by first | exact bl_trans HB6.out hb7 | exact bl_trans (bl_alloc HB6.out _) hb7); (first | (have FB7 := Lib.hid (filC hb7 FB6.out); obtain ⟨fc0, fc1, ff0, ff1⟩ := fil_cells FB7.out.1) | (have FB7 := Lib.hid (filBt hb7 HB6.out); obtain ⟨fc0, fc1, ff0, ff1⟩ := fil_cells FB7.out.1) | (have FB7 := Lib.hid True.intro))))
          all_goals
            (first
              | (have HF8 := Lib.hid (finSet (st := st) (bb := bb) HB7.out FB7.out); generalize (w7.setCell ⟨wq.heap.size, 0, none⟩ (.int .i64 (st : Nat))).setCell ⟨wq.heap.size, 1, none⟩ (.string bb) = w8 at HF8 ⊢; generalize wq.heap.size = b16 at HF8 ⊢; (have hq : FilB wq w8 b16 st bb := HF8.out); clear hq)
              | (have HF8 := Lib.hid (finSet (st := st) (bb := bb) HB7.out FB7.out); generalize (w7.setCell ⟨w6.heap.size, 0, none⟩ (.int .i64 (st : Nat))).setCell ⟨w6.heap.size, 1, none⟩ (.string bb) = w8 at HF8 ⊢; generalize w6.heap.size = b16 at HF8 ⊢; (have hq : FilB wq w8 b16 st bb := HF8.out); clear hq)
              | (have HF8 := Lib.hid (finNew (st := st) (bb := bb) HB7.out); generalize w7.alloc (.cells #[.int .i64 (st : Nat), .string bb] 183) = w8 at HF8 ⊢; generalize w7.heap.size = b16 at HF8 ⊢; (have hq : FilB wq w8 b16 st bb := HF8.out); clear hq))
            have HB38 := Lib.hid (bl_trans HB35.out (bl_trans HBq.out HF8.out.bel))
            have HB58 := Lib.hid (bl_trans HBq.out HF8.out.bel)
            have HB18 := Lib.hid (HB.out.trans (HB38.out.mono HB.out.size))
            have hbx8 := (HB58.out.block _ (Array.getElem?_eq_some_iff.1 H5.out).1).trans H5.out
            have HBX8 := Lib.hid hbx8
            have hlc8 : w4.heap.size < w5.heap.size := (Array.getElem?_eq_some_iff.1 H5.out).1
            have hl35 := HBs.out.size
            clear hbx8
            go_wp2_with (first
              | (go_at_call 101; (with_reducible refine (HNx.out _ HF8.out.bel).mono ?_); rintro e w9 ⟨rfl, rfl⟩)
              | (at_builtin; refine wpList_append_lies _ rfl (.tmp 73) (.tmp 76) 42 rfl W1.heap.size 3 i0 (.int .i64 0) 1 8 Tryz.underlying42 hi hz0 hz1 hz2 rfl (by decide) (.slice xa n ya) n ((gensN cs n).flatMap natV) rfl (HO.out.nb' rfl hgl HB38.out _) _ 1 1 [.int .i64 (genAt cs n : Nat)] rfl rfl (cells_new _ [.int .i64 (genAt cs n : Nat)] _ rfl) (by intro u hu; rw [List.mem_singleton.1 hu]; rfl) (by decide) (by unfold maxLen; omega) (by omega) (by have := HB18.out.size; simp; omega) _ rfl ?_; intro ga ca w10 hown hg hat hlt10; have HW10 := Lib.hid hown; have HG10 := Lib.hid hg; have HAT10 := Lib.hid hat; have HLT10 := Lib.hid hlt10; clear hown hg hat hlt10))
            have hal3 := HO.out.lt
            have hz39 := HB38.out.size
            have hab : ∀ b, b < w9.heap.size → (Value.slice xa n ya).ownBlock ≠ some b → w10.heap[b]? = w9.heap[b]? := fun b hb hn => (HG10.out.block b (by simp; omega) (Ne.symm hn)).trans (Below.heap_alloc _ _ _ hb)
            have HA10 := Lib.hid (show OwnX 3 1 natV w10 W1.heap.size (.slice (some ⟨ga, 0, none⟩) (n + 1) ca) (gensN cs (n + 1)) from by rw [gensN_succ]; exact OwnX.push (enc := natV) (m := [genAt cs n]) HW10.out (by rw [hgl]; rfl) rfl)
            have hg10 : w10.cell? ⟨ga, n, none⟩ = some (.int .i64 (genAt cs n : Nat)) := own_last (by rw [← gensN_succ]; exact HA10.out) hgl
            have hgaR : ¬ R ga := by
              rcases HAT10.out with h | h
              · exact HRA.out ga h
              · intro hr
                have := HR.out.lt ga hr
                simp at h
                omega
            have hbc10 := (hab w4.heap.size (by have := (Array.getElem?_eq_some_iff.1 HBX8.out).1; exact this) (fun e => by have := (hal3 _ e).2; omega)).trans HBX8.out
            obtain ⟨d0, d1, _, _⟩ := two_cells hbc10
            have hf16 : b16 < w9.heap.size := World.block_lt_of_cell? w9 _ HF8.out.c0
            have hf17 : (Value.slice xa n ya).ownBlock ≠ some b16 := fun e => by have := (hal3 _ e).2; have := HF8.out.ge; have := HBq.out.size; omega
            have f0 : w10.cell? ⟨b16, 0, none⟩ = some (.int .i64 (st : Nat)) := by rw [World.cell?_of_block (hab b16 hf16 hf17)]; exact HF8.out.c0
            have f1 : w10.cell? ⟨b16, 1, none⟩ = some (.string bb) := by rw [World.cell?_of_block (hab b16 hf16 hf17)]; exact HF8.out.c1
            have HZ10 := Lib.hid (show w9.heap.size ≤ w10.heap.size from by have := HG10.out.size; simp at this; omega)
            have HR10 := HR.out.stays (x := w10) ⟨fun k hk => (hab k (Nat.lt_of_lt_of_le (HR.out.lt k hk) hz39) (fun e => HRA.out k e hk)).trans (HB38.out.block k (HR.out.lt k hk)), Nat.le_trans hz39 HZ10.out⟩
            have HPV10 := Lib.hid ((HPV5.out.below HB58.out).stays (x := w10) fun g e => hab g ((HPV5.out.below HB58.out).lt g e).2 (fun e2 => by have := (hal3 _ e2).2; have := (HPV5.out.lt g e).1; omega))
            have HB10 := Lib.hid (bel_grown HB18.out HB18.out.size (bl_alloc (Below.refl _ w9) _) HG10.out (fun j hj => (hal3 j hj).1))
            obtain ⟨xs, hx1, hx2⟩ := HR10.row
            rw [rowsFrom_len] at hx1 hx2
            have HX1 := Lib.hid hx1; have HX2 := Lib.hid hx2
            have HGA := Lib.hid (show ga < w10.heap.size from HLT10.out)
            have HGR := Lib.hid hgaR
            have HG3 := Lib.hid (show ∀ b, (Value.slice pa ps.length pc).ownBlock = some b → ga ≠ b from fun b e => by
              have h1 := (HPV10.out.lt b e).1
              rcases HAT10.out with h | h
              · have := (hal3 _ h).2; omega
              · have := ((HPV5.out.below HB58.out).lt b e).2
                simp at h; omega)
            clear hx1 hx2 HR10 hbc10 hab hgaR
            have hidx : (n : Int) < (n : Int) + 1 := by omega
            have HS0 := Lib.hid (show (fun x => x.cell? ⟨w4.heap.size, 0, none⟩ = some (.slice pa ps.length pc) ∧ x.cell? ⟨w4.heap.size, 1, none⟩ = some (.int .i64 (t : Nat)) ∧ x.cell? ⟨b16, 0, none⟩ = some (.int .i64 (st : Nat)) ∧ x.cell? ⟨b16, 1, none⟩ = some (.string bb) ∧ x.cell? ⟨ga, n, none⟩ = some (.int .i64 (genAt cs n : Nat))) w10 from ⟨d0, d1, f0, f1, hg10⟩)
            have HSA := Lib.hid (show ∀ o, (fun x => x.cell? ⟨w4.heap.size, 0, none⟩ = some (.slice pa ps.length pc) ∧ x.cell? ⟨w4.heap.size, 1, none⟩ = some (.int .i64 (t : Nat)) ∧ x.cell? ⟨b16, 0, none⟩ = some (.int .i64 (st : Nat)) ∧ x.cell? ⟨b16, 1, none⟩ = some (.string bb) ∧ x.cell? ⟨ga, n, none⟩ = some (.int .i64 (genAt cs n : Nat))) ((w10.alloc o)) from fun o => ⟨cell_al d0 o, cell_al d1 o, cell_al f0 o, cell_al f1 o, cell_al hg10 o⟩)
            have HSB := Lib.hid (show ∀ (x y : World), x.grownBy y o.ownBlock → (∀ b, b < w10.heap.size → x.heap[b]? = w10.heap[b]?) → w10.heap.size ≤ x.heap.size → (fun x => x.cell? ⟨w4.heap.size, 0, none⟩ = some (.slice pa ps.length pc) ∧ x.cell? ⟨w4.heap.size, 1, none⟩ = some (.int .i64 (t : Nat)) ∧ x.cell? ⟨b16, 0, none⟩ = some (.int .i64 (st : Nat)) ∧ x.cell? ⟨b16, 1, none⟩ = some (.string bb) ∧ x.cell? ⟨ga, n, none⟩ = some (.int .i64 (genAt cs n : Nat))) y from fun x y h3 h1 h2 => by
              have hob : ∀ g, o.ownBlock = some g → R g := HR.out.own
              have hst : ∀ b o' v, w10.cell? ⟨b, o', none⟩ = some v → o.ownBlock ≠ some b → y.cell? ⟨b, o', none⟩ = some v := fun b o' v hv hn => by
                have hbl : b < w10.heap.size := World.block_lt_of_cell? w10 _ hv
                rw [World.cell?_of_block ((h3.block b (Nat.lt_of_lt_of_le hbl h2) (Ne.symm hn)).trans (h1 b hbl))]
                exact hv
              have n4 : o.ownBlock ≠ some w4.heap.size := fun e => by have := HR.out.lt _ (hob _ e); omega
              have n16 : o.ownBlock ≠ some b16 := fun e => by have := HR.out.lt _ (hob _ e); have := HF8.out.ge; have := HBq.out.size; omega
              have nga : o.ownBlock ≠ some ga := fun e => HGR.out (hob _ e)
              exact ⟨hst _ _ _ d0 n4, hst _ _ _ d1 n4, hst _ _ _ f0 n16, hst _ _ _ f1 n16, hst _ _ _ hg10 nga⟩)
            go_region_held3 (fun x => x.cell? ⟨w4.heap.size, 0, none⟩ = some (.slice pa ps.length pc) ∧ x.cell? ⟨w4.heap.size, 1, none⟩ = some (.int .i64 (t : Nat)) ∧ x.cell? ⟨b16, 0, none⟩ = some (.int .i64 (st : Nat)) ∧ x.cell? ⟨b16, 1, none⟩ = some (.string bb) ∧ x.cell? ⟨ga, n, none⟩ = some (.int .i64 (genAt cs n : Nat)))
              (first | exact HSB.out _ _ HG11.out (fun b hb => Below.heap_alloc _ _ _ hb) (by simp) | exact HSA.out _ | exact HS0.out)
              (first | (refine step_append_lies _ rfl (.tmp 78) (.tmp 89) 99 rfl 0 188 j0 (.agg #[.slice none 0 0, .int .i64 0, .int .i64 0, .int .i64 0, .string ⟨#[]⟩]) 5 64 Tryz.underlying99 hj hj0 hj1 hj2 rfl (by decide) o (n - k0) xs rfl (HX1.out.drew.alloc _) _ 1 1 [.slice pa ps.length pc, .int .i64 (t : Nat), .int .i64 (genAt cs n : Nat), .int .i64 (st : Nat), .string bb] rfl rfl (cells_new _ [.slice pa ps.length pc, .int .i64 (t : Nat), .int .i64 (genAt cs n : Nat), .int .i64 (st : Nat), .string bb] _ rfl) (row_one _ _ _ _ _ _ _) (by decide) (by unfold maxLen; omega) (by omega) (Nat.zero_le _) _ rfl ?_; intro gr cr w11 hown hg hat hlt11; have HW11 := Lib.hid hown; have HG11 := Lib.hid hg; have HAT11 := Lib.hid hat; have HLT11 := Lib.hid hlt11; clear hown hg hat hlt11))
            all_goals
              have HROW := Lib.hid (show rowN Q ts cs n = ⟨ps, t, genAt cs n, st, bb⟩ from by unfold rowN; rw [HGD.out, HFI.out])
              have hx10 : Below w10.heap.size w10 (w10.drew.alloc (.cells #[.slice pa ps.length pc, .int .i64 (t : Nat), .int .i64 (genAt cs n : Nat), .int .i64 (st : Nat), .string bb] 188)) := bl_alloc (bl_drew (Below.refl _ w10)) _
              have hpb : ∀ b, (Value.slice pa ps.length pc).ownBlock = some b → b < w10.heap.size ∧ w3.heap.size ≤ b := fun b e => ⟨(HPV10.out.lt b e).2, (HPV10.out.lt b e).1⟩
              have HRN := Lib.hid (HX2.out w11 gr cr (.slice pa ps.length pc) ⟨ps, t, genAt cs n, st, bb⟩ _ hx10 ((HPV10.out.mono (Nat.zero_le _)).below hx10) (fun b e => ⟨Nat.lt_of_lt_of_le (hpb b e).1 hx10.size, fun hr => by have := HR.out.lt b hr; have := (hpb b e).2; omega⟩) HW11.out HG11.out (HAT11.out.imp id (fun e => Nat.le_of_eq e.symm)) HLT11.out)
              have HOB := Lib.hid (show ∀ g, o.ownBlock = some g → R g from HR.out.own)
              have HA11 := Lib.hid (HA10.out.stays (x := w11) fun g e => by
                have e2 : ga = g := by simpa [Value.ownBlock] using e
                subst e2
                exact (HG11.out.block ga (Nat.lt_of_lt_of_le HGA.out hx10.size) (fun e3 => HGR.out (HOB.out ga e3.symm))).trans (hx10.block ga HGA.out))
              have HB11 := Lib.hid (bel_grown HB10.out HB10.out.size hx10 HG11.out (fun j hj => HRB.out j (HOB.out j hj)))
              have hsz := hx10.size
              have hw1 := HB.out.size
              have hgd := HW11.out
              have HRB11 := Lib.hid (show ∀ k, (R k ∨ (Value.slice pa ps.length pc).ownBlock = some k ∨ k = gr) → W1.heap.size ≤ k from fun k hk => by
                rcases hk with hk | hk | rfl
                · exact HRB.out k hk
                · have := (hpb k hk).2; omega
                · rcases HAT11.out with h | h
                  · exact HRB.out _ (HOB.out _ h)
                  · have := HB10.out.size
                    simp at h hsz
                    omega)
              have HRA11 := Lib.hid (show ∀ b, (Value.slice (some ⟨ga, 0, none⟩) (n + 1) ca).ownBlock = some b → ¬ (R b ∨ (Value.slice pa ps.length pc).ownBlock = some b ∨ b = gr) from fun b e hk => by
                have e2 : ga = b := by simpa [Value.ownBlock] using e
                subst e2
                rcases hk with hk | hk | hk
                · exact HGR.out hk
                · exact HG3.out _ hk rfl
                · rcases HAT11.out with h | h
                  · exact HGR.out (by rw [hk]; exact HOB.out _ h)
                  · have := HGA.out
                    simp at h hsz
                    omega)
              have HRR := Lib.hid (show rowsFrom Q ts cs k0 (n + 1 - k0) = rowsFrom Q ts cs k0 (n - k0) ++ [⟨ps, t, genAt cs n, st, bb⟩] from by
                rw [show n + 1 - k0 = (n - k0) + 1 from by omega, rowsFrom_succ, show k0 + (n - k0) = n from by omega, HROW.out])
              clear hx10 hpb hsz hgd
              go_wp2
              go_roundw
              case rel => exact ⟨n + 1, _, _, _, rfl, rfl, by omega, by omega, by go_num, HA11.out, by rw [HRR.out]; exact HRN.out, HRB11.out, HRA11.out, HB11.out⟩
              case measure => simp [intOf]; omega
    · obtain rfl : n = N := by omega
      go_wp2
      go_ret
      exact ⟨_, R, rfl, HR.out, fun k hk => Nat.le_trans HB1.out.size (HRB.out k hk), HB1.out.trans (HB.out.mono HB1.out.size)⟩
end Go.Proofs.YtbhfbdcmamodcaaGreatDoor
namespace Go.Proofs.YtbhfbdcmamodcaaGreatDoor
open Go.RowKit Go.Maps TrMath FrMath PackMath
structure IndexS where
  disk : Nat
  lv : Value
  gv : Value
  links : List Link
  graphs : List GrE
def IndexS.own (x : Nat) (I : IndexS) : List Nat := x :: (I.lv.ownBlock.toList ++ I.gv.ownBlock.toList)
structure GrOk (R : Foot) (w : World) (e : GrE) : Prop where
  len : e.n = e.g.rows.length
  cap : e.n ≤ e.c ∧ e.c ≤ maxLen
  rows : Lasts R w fun x => RowsAt x e.a e.g.rows
theorem GrOk.stays {R : Foot} {w x : World} {e : GrE} (h : GrOk R w e) (hs : Stays R w x) : GrOk R x e := ⟨h.len, h.cap, h.rows.stays hs⟩
structure IndexAt (w : World) (x : Nat) (I : IndexS) (R : Foot) : Prop where
  box : w.heap[x]? = some (.cells #[.pointer (some ⟨I.disk, 0, none⟩), I.lv, I.gv] 97 (0, 0))
  lv : OwnX 149 3 linkV w 0 I.lv I.links
  gv : OwnX 103 6 graphC w 0 I.gv I.graphs
  rows : ∀ e ∈ I.graphs, GrOk R w e
  lt : ∀ k, R k → k < w.heap.size
  apart : (I.own x).Nodup
  off : ∀ k ∈ I.own x, ¬ R k
def IndexS.foot (x : Nat) (I : IndexS) (R : Foot) : Foot := fun k => k ∈ I.own x ∨ R k
section
variable {w y : World} {x : Nat} {I : IndexS} {R : Foot}
theorem xown_x : x ∈ I.own x := by simp [IndexS.own]
theorem xown_lv {g : Nat} (h : I.lv.ownBlock = some g) : g ∈ I.own x := by simp [IndexS.own, h]
theorem xown_gv {g : Nat} (h : I.gv.ownBlock = some g) : g ∈ I.own x := by simp [IndexS.own, h]
theorem IndexAt.flt (h : IndexAt w x I R) : ∀ k, I.foot x R k → k < w.heap.size := by
  intro k hk
  rcases hk with hk | hk
  · unfold IndexS.own at hk
    rcases List.mem_cons.1 hk with rfl | hk
    · exact (Array.getElem?_eq_some_iff.1 h.box).1
    rcases List.mem_append.1 hk with hk | hk
    · exact (h.lv.lt k (by simpa using hk)).2
    · exact (h.gv.lt k (by simpa using hk)).2
  · exact h.lt k hk
theorem IndexAt.stays (h : IndexAt w x I R) (hs : Stays (I.foot x R) w y) : IndexAt y x I R :=
  ⟨(hs.1 x (.inl xown_x)).trans h.box, h.lv.stays fun g e => hs.1 g (.inl (xown_lv e)), h.gv.stays fun g e => hs.1 g (.inl (xown_gv e)), fun e he => (h.rows e he).stays (hs.mono fun _ k => .inr k), fun k hk => Nat.lt_of_lt_of_le (h.lt k hk) hs.2, h.apart, h.off⟩
theorem IndexAt.below (h : IndexAt w x I R) (hb : Below w.heap.size w y) : IndexAt y x I R := h.stays (Stays.of hb h.flt)
end
set_option maxRecDepth 100000 in
theorem xLen {w : World} {x : Nat} {I : IndexS} {R : Foot} (h : IndexAt w x I R) (hl : I.links.length ≤ 1000) (ht : totalL I.links ≤ 1000000) :
    Calls Tryz.prog 16 #[.pointer (some ⟨x, 0, none⟩)] w fun e w' => e = .returned (.int .i64 (totalL I.links : Nat)) ∧ Below w.heap.size w w' := by
  obtain ⟨a, c, hlv, hc, _, _, _, _⟩ := h.lv.sl
  have c1 : w.cell? ⟨x, 1, none⟩ = some (.slice a I.links.length c) := by rw [cell_of_row _ _ _ _ _ _ h.box, ← hlv]; rfl
  have HT := Lib.hid (lcTotal I.links (by omega) (by omega) a c w hc)
  clear h hlv hc
  go_enter Tryz.func16, Tryz.ntmps16
  go_wp2_with (go_at_call 44; (with_reducible refine HT.out.mono ?_); rintro e w2 ⟨rfl, hb⟩; have HB := Lib.hid hb; clear hb)
  go_ret
  exact ⟨rfl, HB.out⟩
end Go.Proofs.YtbhfbdcmamodcaaGreatDoor
namespace Go.Proofs.YtbhfbdcmamodcaaGreatDoor
open Go.RowKit Go.Maps TrMath FrMath PackMath
theorem gr_cells {w : World} {a : Option Addr} {l : List GrE} (h : CellsAt w a (l.flatMap graphC)) {k : Nat} (hk : k < l.length) :
    ∃ b off, a = some ⟨b, off, none⟩ ∧ b < w.heap.size ∧ w.cell? ⟨b, off + k * 6, none⟩ = some (.int .i64 (l[k].g.base : Nat)) ∧ w.cell? ⟨b, off + k * 6 + 1, none⟩ = some (.int .i64 (l[k].g.set.H : Nat)) ∧ w.cell? ⟨b, off + k * 6 + 2, none⟩ = some (.int .i64 (l[k].g.set.P : Nat)) ∧
      w.cell? ⟨b, off + k * 6 + 3, none⟩ = some (.int .i64 (l[k].g.set.M : Nat)) ∧ w.cell? ⟨b, off + k * 6 + 4, none⟩ = some (.int .u32 (l[k].g.set.S : Nat)) ∧ w.cell? ⟨b, off + k * 6 + 5, none⟩ = some (.slice l[k].a l[k].n l[k].c) := by
  obtain ⟨b, off, h1, h2, h3⟩ := h.elem graphCW hk (by decide)
  exact ⟨b, off, h1, h2, h3 0 _ rfl, h3 1 _ rfl, h3 2 _ rfl, h3 3 _ rfl, h3 4 _ rfl, h3 5 _ rfl⟩
def genRows (rows : List RowP) : List Nat := rows.map RowP.gen
def genAll (G : List GrE) : List Nat := G.flatMap fun e => genRows e.g.rows
theorem genAll_take {G : List GrE} {i : Nat} (h : i < G.length) : genAll (G.take (i + 1)) = genAll (G.take i) ++ genRows G[i].g.rows := by
  unfold genAll
  rw [List.take_succ_eq_append_getElem h, List.flatMap_append]
  simp
set_option maxHeartbeats 4000000 in
set_option maxRecDepth 100000 in
theorem xGens {w : World} {x : Nat} {I : IndexS} {R : Foot} (h : IndexAt w x I R) (hl : I.graphs.length ≤ 1000) (ht : (genAll I.graphs).length ≤ 100000) :
    Calls Tryz.prog 43 #[.pointer (some ⟨x, 0, none⟩)] w fun e w' => ∃ v, e = .returned v ∧ OwnX 3 1 natV w' w.heap.size v (genAll I.graphs) ∧ Below w.heap.size w w' := by
  obtain ⟨i0, hi, hz0, hz1, hz2⟩ := info_parts infoIntX
  obtain ⟨a, c, hgv, hc, _, _, _, _⟩ := h.gv.sl
  obtain ⟨G, hG⟩ : ∃ G, I.graphs = G := ⟨_, rfl⟩
  rw [hG] at hgv hc hl ht
  have HR := Lib.hid (show ∀ e ∈ G, e.n = e.g.rows.length ∧ e.n ≤ e.c ∧ e.c ≤ maxLen ∧ RowsAt w e.a e.g.rows from fun e he => by
    have := h.rows e (by rw [hG]; exact he)
    exact ⟨this.len, this.cap.1, this.cap.2, this.rows.now⟩)
  rw [hG]
  have c2 : w.cell? ⟨x, 2, none⟩ = some (.slice a G.length c) := by rw [cell_of_row _ _ _ _ _ _ h.box, ← hgv]; rfl
  have HC := Lib.hid hc
  have HT0 := Lib.hid (show ∀ i (hi : i < G.length) j, j ≤ G[i].g.rows.length → (genAll (G.take i) ++ (genRows G[i].g.rows).take j).length ≤ 100000 from fun i hi j hj => by
    have h1 := genAll_take hi
    have h2 : (genAll (G.take (i + 1))).length ≤ (genAll G).length := by
      have e : genAll G = genAll (G.take (i + 1)) ++ genAll (G.drop (i + 1)) := by
        unfold genAll
        rw [← List.flatMap_append, List.take_append_drop]
      rw [e, List.length_append]
      omega
    rw [h1, List.length_append] at h2
    rw [List.length_append, List.length_take]
    omega)
  clear h hgv hc hG ht
  go_enter Tryz.func43, Tryz.ntmps43
  go_wp2
  go_loopw [3, 13] (fun ov iv wr => ∃ (i : Nat) (o : Value), o = ov ∧ i ≤ G.length ∧ iv = .int .i64 i ∧ OwnX 3 1 natV wr w.heap.size o (genAll (G.take i)) ∧ Below w.heap.size w wr) (fun _ iv _ => G.length - (intOf iv).toNat)
  case atStart => exact ⟨0, _, rfl, Nat.zero_le _, rfl, OwnX.nil _ _ _ _ _, Below.refl _ _⟩
  case round =>
    obtain ⟨i, o, ho, hi2, rfl, hown, hbel⟩ := hrel
    subst ho
    obtain ⟨wq, hwq⟩ : ∃ wq : World, wq = wr := ⟨_, rfl⟩
    subst hwq
    have HO := Lib.hid hown; have HB := Lib.hid hbel
    clear hown hbel
    by_cases hlt : i < G.length
    · obtain ⟨b, off, rfl, _, g0, g1, g2, g3, g4, g5⟩ := gr_cells (HC.out.below HB.out) hlt
      have HGT := Lib.hid (genAll_take hlt)
      obtain ⟨r1, r2, r3, r4⟩ := HR.out _ (List.getElem_mem hlt)
      have ht0 := HT0.out i hlt
      obtain ⟨E, hE⟩ : ∃ E, G[i] = E := ⟨_, rfl⟩
      rw [hE] at g0 g1 g2 g3 g4 g5 HGT r1 r2 r3 r4 ht0
      obtain ⟨ea, en, ec, eg⟩ := E
      simp only at g0 g1 g2 g3 g4 g5 HGT r1 r2 r3 r4 ht0
      subst r1
      have HTL := Lib.hid ht0
      have hrl : eg.rows.length ≤ 100000 := by
        have := ht0 eg.rows.length (Nat.le_refl _)
        rw [List.length_append, List.length_take] at this
        have e : (genRows eg.rows).length = eg.rows.length := by unfold genRows; rw [List.length_map]
        omega
      have HRW := Lib.hid r4
      have HB5 := Lib.hid (show ∀ o, Below w.heap.size w (wq.alloc o) from fun o => bl_alloc HB.out o)
      have HO5 := Lib.hid (show ∀ o2, OwnX 3 1 natV (wq.alloc o2) w.heap.size o (genAll (G.take i)) from fun o2 => HO.out.below (bl_alloc (Below.refl _ wq) o2))
      clear hE r4 ht0
      go_wp2
      have HBx := Lib.hid (HB5.out (.cells #[.int .i64 (eg.base : Nat), .int .i64 (eg.set.H : Nat), .int .i64 (eg.set.P : Nat), .int .i64 (eg.set.M : Nat), .int .u32 (eg.set.S : Nat), .slice ea eg.rows.length ec] 103))
      have HOx := Lib.hid (HO5.out (.cells #[.int .i64 (eg.base : Nat), .int .i64 (eg.set.H : Nat), .int .i64 (eg.set.P : Nat), .int .i64 (eg.set.M : Nat), .int .u32 (eg.set.S : Nat), .slice ea eg.rows.length ec] 103))
      generalize wq.alloc (.cells #[.int .i64 (eg.base : Nat), .int .i64 (eg.set.H : Nat), .int .i64 (eg.set.P : Nat), .int .i64 (eg.set.M : Nat), .int .u32 (eg.set.S : Nat), .slice ea eg.rows.length ec] 103) = w5 at *
      go_loopw [3, 20] (fun ov jv wz => ∃ (j : Nat) (o2 : Value), o2 = ov ∧ j ≤ eg.rows.length ∧ jv = .int .i64 j ∧ OwnX 3 1 natV wz w.heap.size o2 (genAll (G.take i) ++ (genRows eg.rows).take j) ∧ Below w.heap.size w wz) (fun _ jv _ => eg.rows.length - (intOf jv).toNat)
      case atStart => exact ⟨0, _, rfl, Nat.zero_le _, rfl, by rw [List.take_zero, List.append_nil]; exact HOx.out, HBx.out⟩
      case round =>
        obtain ⟨j, o2, ho2, hj2, rfl, hown, hbel⟩ := hrel
        subst ho2
        obtain ⟨wz, hwz⟩ : ∃ wz : World, wz = wr := ⟨_, rfl⟩
        subst hwz
        have HO2 := Lib.hid hown; have HB2 := Lib.hid hbel
        clear hown hbel
        by_cases hjl : j < eg.rows.length
        · obtain ⟨rb, ro, pa, pc, rfl, _, p0, p1, p2, p3, p4, _⟩ := (HRW.out.below HB2.out).get hjl
          have HTT := Lib.hid (show genAll (G.take i) ++ (genRows eg.rows).take (j + 1) = (genAll (G.take i) ++ (genRows eg.rows).take j) ++ [eg.rows[j].gen] from by
            have hgl : j < (genRows eg.rows).length := by unfold genRows; rw [List.length_map]; exact hjl
            have e : (genRows eg.rows)[j] = eg.rows[j].gen := List.getElem_map _
            rw [List.take_succ_eq_append_getElem hgl, ← List.append_assoc, e])
          obtain ⟨L, hL⟩ : ∃ L, genAll (G.take i) ++ (genRows eg.rows).take j = L := ⟨_, rfl⟩
          have hLl := HTL.out j hj2
          rw [hL] at hLl HTT HO2
          obtain ⟨ra, hra⟩ : ∃ r, eg.rows[j] = r := ⟨_, rfl⟩
          rw [hra] at p0 p1 p2 p3 p4 HTT
          obtain ⟨q1, q2, q3, q4, q5⟩ := ra
          simp only at p0 p1 p2 p3 p4 HTT
          have HB6 := Lib.hid (show ∀ o, Below w.heap.size w (wz.alloc o) from fun o => bl_alloc HB2.out o)
          have HO6 := Lib.hid (show ∀ o3, OwnX 3 1 natV (wz.alloc o3) w.heap.size o2 L from fun o3 => HO2.out.below (bl_alloc (Below.refl _ wz) o3))
          obtain ⟨K, hK⟩ : ∃ K, L.length = K := ⟨_, rfl⟩
          have HK := Lib.hid hK
          rw [hK] at hLl
          have hxo : ∀ o3 o4, ((wz.alloc o3).alloc o4).ownsRow w.heap.size 3 1 o2 K (L.flatMap natV) := fun o3 o4 => by
            have := (HO6.out o3).below (bl_alloc (Below.refl _ _) o4)
            unfold OwnX at this
            rwa [hK] at this
          have HXO := Lib.hid hxo
          clear hL hra hK hxo
          go_wp2_with (at_builtin; refine wpList_append_lies _ rfl (.tmp 24) (.tmp 27) 42 rfl w.heap.size 3 i0 (.int .i64 0) 1 8 Tryz.underlying42 hi hz0 hz1 hz2 rfl (by decide) o2 K (L.flatMap natV) rfl (HXO.out _ _) _ 1 1 [.int .i64 (q3 : Nat)] rfl rfl (cells_new _ [.int .i64 (q3 : Nat)] _ (by simp)) (by intro u hu; rw [List.mem_singleton.1 hu]; rfl) (by decide) (by unfold maxLen; omega) (by omega) (by have := HB2.out.size; simp; omega) _ rfl ?_; intro gg cp w7 hown hg hat hlt7; have HU7 := Lib.hid (OwnX.push (enc := natV) (l := L) (m := [q3]) hown (by rw [HK.out]; rfl) rfl); have HB7 := Lib.hid (bel_grown (HB6.out _) (HB6.out _).size (bl_alloc (Below.refl _ _) _) hg (fun j hj => (HO2.out.lt j hj).1)); clear hown hg hat hlt7)
          go_roundw
          case rel => exact ⟨j + 1, _, rfl, by omega, by go_num, by rw [HTT.out]; exact HU7.out, HB7.out⟩
          case measure => simp [intOf]; omega
        · obtain rfl : j = eg.rows.length := by omega
          have HF := Lib.hid (show OwnX 3 1 natV wz w.heap.size o2 (genAll (G.take (i + 1))) from by
            rw [HGT.out]
            have := HO2.out
            rwa [List.take_of_length_le (show (genRows eg.rows).length ≤ eg.rows.length from by unfold genRows; rw [List.length_map]; exact Nat.le_refl _)] at this)
          go_wp2
          go_roundw
          case rel => exact ⟨i + 1, _, rfl, by omega, by go_num, HF.out, HB2.out⟩
          case measure => simp [intOf]; omega
    · obtain rfl : i = G.length := by omega
      go_wp2
      go_ret
      exact ⟨_, rfl, by have := HO.out; rwa [List.take_length] at this, HB.out⟩
end Go.Proofs.YtbhfbdcmamodcaaGreatDoor
namespace Go.Proofs.YtbhfbdcmamodcaaGreatDoor
open Go.RowKit Go.Maps TrMath FrMath PackMath
set_option maxHeartbeats 1000000 in
set_option maxRecDepth 100000 in
theorem xW1 (A B i p : Nat) (tmp : ByteArray) (w : World) (R : World → Prop) (hc : w.cell? ⟨A, 0, none⟩ = some (.pointer (some ⟨i, 0, none⟩)) ∧ w.cell? ⟨i, 0, none⟩ = some (.pointer (some ⟨p, 0, none⟩)) ∧ w.cell? ⟨B, 0, none⟩ = some (.string tmp)) (hk : ∀ y, R y → y.cell? ⟨A, 0, none⟩ = some (.pointer (some ⟨i, 0, none⟩)) ∧ y.cell? ⟨i, 0, none⟩ = some (.pointer (some ⟨p, 0, none⟩)) ∧ y.cell? ⟨B, 0, none⟩ = some (.string tmp))
    (h : Calls Tryz.prog 28 #[.pointer (some ⟨p, 0, none⟩), .string tmp] w.drew fun e w' => e = .returned (.int .i64 0) ∧ R w') :
    Calls Tryz.prog 151 #[.pointer (some ⟨A, 0, none⟩), .pointer (some ⟨B, 0, none⟩)] w fun e w' => e = .returned (.int .i64 0) ∧ R w' := by
  have H := Lib.hid h; have HK := Lib.hid hk; have Q := Lib.hid hc
  clear h hk hc
  go_enter Tryz.func151, Tryz.ntmps151
  go_wp2_with fail
  go_region_held3 (fun y => y.cell? ⟨A, 0, none⟩ = some (.pointer (some ⟨i, 0, none⟩)) ∧ y.cell? ⟨i, 0, none⟩ = some (.pointer (some ⟨p, 0, none⟩)) ∧ y.cell? ⟨B, 0, none⟩ = some (.string tmp)) (first | exact HK.out _ HR.out | exact Q.out)
    (first
      | (go_at_call 28; (with_reducible refine H.out.mono ?_); rintro e w2 ⟨rfl, hr⟩; have HR := Lib.hid hr; clear hr))
  all_goals
    go_wp2
    go_ret
    exact ⟨rfl, HR.out⟩
set_option maxHeartbeats 1000000 in
set_option maxRecDepth 100000 in
theorem xW2 (A B i p : Nat) (tmp : ByteArray) (C : Nat) (txt : ByteArray) (w : World) (R : World → Prop) (hc : w.cell? ⟨A, 0, none⟩ = some (.pointer (some ⟨i, 0, none⟩)) ∧ w.cell? ⟨i, 0, none⟩ = some (.pointer (some ⟨p, 0, none⟩)) ∧ w.cell? ⟨B, 0, none⟩ = some (.string tmp) ∧ w.cell? ⟨C, 0, none⟩ = some (.string txt)) (hk : ∀ y, R y → y.cell? ⟨A, 0, none⟩ = some (.pointer (some ⟨i, 0, none⟩)) ∧ y.cell? ⟨i, 0, none⟩ = some (.pointer (some ⟨p, 0, none⟩)) ∧ y.cell? ⟨B, 0, none⟩ = some (.string tmp) ∧ y.cell? ⟨C, 0, none⟩ = some (.string txt))
    (h : Calls Tryz.prog 80 #[.pointer (some ⟨p, 0, none⟩), .string tmp, .string txt] w.drew fun e w' => e = .returned (.int .i64 0) ∧ R w') :
    Calls Tryz.prog 152 #[.pointer (some ⟨A, 0, none⟩), .pointer (some ⟨B, 0, none⟩), .pointer (some ⟨C, 0, none⟩)] w fun e w' => e = .returned (.int .i64 0) ∧ R w' := by
  have H := Lib.hid h; have HK := Lib.hid hk; have Q := Lib.hid hc
  clear h hk hc
  go_enter Tryz.func152, Tryz.ntmps152
  go_wp2_with fail
  go_region_held3 (fun y => y.cell? ⟨A, 0, none⟩ = some (.pointer (some ⟨i, 0, none⟩)) ∧ y.cell? ⟨i, 0, none⟩ = some (.pointer (some ⟨p, 0, none⟩)) ∧ y.cell? ⟨B, 0, none⟩ = some (.string tmp) ∧ y.cell? ⟨C, 0, none⟩ = some (.string txt)) (first | exact HK.out _ HR.out | exact Q.out)
    (first
      | (go_at_call 80; (with_reducible refine H.out.mono ?_); rintro e w2 ⟨rfl, hr⟩; have HR := Lib.hid hr; clear hr))
  all_goals
    go_wp2
    go_ret
    exact ⟨rfl, HR.out⟩
set_option maxHeartbeats 1000000 in
set_option maxRecDepth 100000 in
theorem xW3 (A B i p : Nat) (tmp : ByteArray) (w : World) (R : World → Prop) (hc : w.cell? ⟨A, 0, none⟩ = some (.pointer (some ⟨i, 0, none⟩)) ∧ w.cell? ⟨i, 0, none⟩ = some (.pointer (some ⟨p, 0, none⟩)) ∧ w.cell? ⟨B, 0, none⟩ = some (.string tmp)) (hk : ∀ y, R y → y.cell? ⟨A, 0, none⟩ = some (.pointer (some ⟨i, 0, none⟩)) ∧ y.cell? ⟨i, 0, none⟩ = some (.pointer (some ⟨p, 0, none⟩)) ∧ y.cell? ⟨B, 0, none⟩ = some (.string tmp))
    (h : Calls Tryz.prog 66 #[.pointer (some ⟨p, 0, none⟩), .string tmp] w.drew fun e w' => e = .returned (.int .i64 0) ∧ R w') :
    Calls Tryz.prog 153 #[.pointer (some ⟨A, 0, none⟩), .pointer (some ⟨B, 0, none⟩)] w fun e w' => e = .returned (.int .i64 0) ∧ R w' := by
  have H := Lib.hid h; have HK := Lib.hid hk; have Q := Lib.hid hc
  clear h hk hc
  go_enter Tryz.func153, Tryz.ntmps153
  go_wp2_with fail
  go_region_held3 (fun y => y.cell? ⟨A, 0, none⟩ = some (.pointer (some ⟨i, 0, none⟩)) ∧ y.cell? ⟨i, 0, none⟩ = some (.pointer (some ⟨p, 0, none⟩)) ∧ y.cell? ⟨B, 0, none⟩ = some (.string tmp)) (first | exact HK.out _ HR.out | exact Q.out)
    (first
      | (go_at_call 66; (with_reducible refine H.out.mono ?_); rintro e w2 ⟨rfl, hr⟩; have HR := Lib.hid hr; clear hr))
  all_goals
    go_wp2
    go_ret
    exact ⟨rfl, HR.out⟩
set_option maxHeartbeats 1000000 in
set_option maxRecDepth 100000 in
theorem xW4 (A B i p : Nat) (tmp : ByteArray) (D : Nat) (txt : ByteArray) (w : World) (R : World → Prop) (hc : w.cell? ⟨A, 0, none⟩ = some (.pointer (some ⟨i, 0, none⟩)) ∧ w.cell? ⟨i, 0, none⟩ = some (.pointer (some ⟨p, 0, none⟩)) ∧ w.cell? ⟨B, 0, none⟩ = some (.string tmp) ∧ w.cell? ⟨D, 0, none⟩ = some (.string txt)) (hk : ∀ y, R y → y.cell? ⟨A, 0, none⟩ = some (.pointer (some ⟨i, 0, none⟩)) ∧ y.cell? ⟨i, 0, none⟩ = some (.pointer (some ⟨p, 0, none⟩)) ∧ y.cell? ⟨B, 0, none⟩ = some (.string tmp) ∧ y.cell? ⟨D, 0, none⟩ = some (.string txt))
    (h : Calls Tryz.prog 155 #[.pointer (some ⟨p, 0, none⟩), .string tmp, .string txt] w.drew fun e w' => e = .returned (.int .i64 0) ∧ R w') :
    Calls Tryz.prog 154 #[.pointer (some ⟨A, 0, none⟩), .pointer (some ⟨B, 0, none⟩), .pointer (some ⟨D, 0, none⟩)] w fun e w' => e = .returned (.int .i64 0) ∧ R w' := by
  have H := Lib.hid h; have HK := Lib.hid hk; have Q := Lib.hid hc
  clear h hk hc
  go_enter Tryz.func154, Tryz.ntmps154
  go_wp2_with fail
  go_region_held3 (fun y => y.cell? ⟨A, 0, none⟩ = some (.pointer (some ⟨i, 0, none⟩)) ∧ y.cell? ⟨i, 0, none⟩ = some (.pointer (some ⟨p, 0, none⟩)) ∧ y.cell? ⟨B, 0, none⟩ = some (.string tmp) ∧ y.cell? ⟨D, 0, none⟩ = some (.string txt)) (first | exact HK.out _ HR.out | exact Q.out)
    (first
      | (go_at_call 155; (with_reducible refine H.out.mono ?_); rintro e w2 ⟨rfl, hr⟩; have HR := Lib.hid hr; clear hr))
  all_goals
    go_wp2
    go_ret
    exact ⟨rfl, HR.out⟩
set_option maxHeartbeats 4000000 in
set_option maxRecDepth 100000 in
theorem xWriteGo (x : Nat) (tmp text name : ByteArray) (w W5 : World) (A B C D b : Nat) (hA : A = w.heap.size) (hB : B = w.heap.size + 1) (hC : C = w.heap.size + 2) (hD : D = w.heap.size + 3) (hb : b = w.heap.size + 4)
    (hW : ((((w.alloc (.cells #[.pointer (some ⟨x, 0, none⟩)] 32)).alloc (.cells #[.string tmp] 9)).alloc (.cells #[.string text] 9)).alloc (.cells #[.string name] 9)).alloc (.cells #[.func (.func 151) #[] #[.pointer (some ⟨A, 0, none⟩), .pointer (some ⟨B, 0, none⟩)], .func (.func 152) #[] #[.pointer (some ⟨A, 0, none⟩), .pointer (some ⟨B, 0, none⟩), .pointer (some ⟨C, 0, none⟩)], .func (.func 153) #[] #[.pointer (some ⟨A, 0, none⟩), .pointer (some ⟨B, 0, none⟩)], .func (.func 154) #[] #[.pointer (some ⟨A, 0, none⟩), .pointer (some ⟨B, 0, none⟩), .pointer (some ⟨D, 0, none⟩)]] 80) = W5)
    (R1 R2 R3 R4 : World → Prop) (c0 : W5.cell? ⟨b, 0, none⟩ = some (.func (.func 151) #[] #[.pointer (some ⟨A, 0, none⟩), .pointer (some ⟨B, 0, none⟩)])) (c1 : ∀ y, R1 y → y.cell? ⟨b, 1, none⟩ = some (.func (.func 152) #[] #[.pointer (some ⟨A, 0, none⟩), .pointer (some ⟨B, 0, none⟩), .pointer (some ⟨C, 0, none⟩)])) (c2 : ∀ y, R2 y → y.cell? ⟨b, 2, none⟩ = some (.func (.func 153) #[] #[.pointer (some ⟨A, 0, none⟩), .pointer (some ⟨B, 0, none⟩)])) (c3 : ∀ y, R3 y → y.cell? ⟨b, 3, none⟩ = some (.func (.func 154) #[] #[.pointer (some ⟨A, 0, none⟩), .pointer (some ⟨B, 0, none⟩), .pointer (some ⟨D, 0, none⟩)]))
    (h0 : Calls Tryz.prog 151 #[.pointer (some ⟨A, 0, none⟩), .pointer (some ⟨B, 0, none⟩)] W5 fun e w' => e = .returned (.int .i64 0) ∧ R1 w') (h1 : ∀ y, R1 y → Calls Tryz.prog 152 #[.pointer (some ⟨A, 0, none⟩), .pointer (some ⟨B, 0, none⟩), .pointer (some ⟨C, 0, none⟩)] y fun e w' => e = .returned (.int .i64 0) ∧ R2 w')
    (h2 : ∀ y, R2 y → Calls Tryz.prog 153 #[.pointer (some ⟨A, 0, none⟩), .pointer (some ⟨B, 0, none⟩)] y fun e w' => e = .returned (.int .i64 0) ∧ R3 w') (h3 : ∀ y, R3 y → Calls Tryz.prog 154 #[.pointer (some ⟨A, 0, none⟩), .pointer (some ⟨B, 0, none⟩), .pointer (some ⟨D, 0, none⟩)] y fun e w' => e = .returned (.int .i64 0) ∧ R4 w') :
    Calls Tryz.prog 92 #[.pointer (some ⟨x, 0, none⟩), .string tmp, .string text, .string name] w fun e w' => e = .returned (.int .i64 0) ∧ R4 w' := by
  subst hA; subst hB; subst hC; subst hD; subst hb
  have H0 := Lib.hid h0; have H1 := Lib.hid h1; have H2 := Lib.hid h2; have H3 := Lib.hid h3
  have C0 := Lib.hid c0; have C1 := Lib.hid c1; have C2 := Lib.hid c2; have C3 := Lib.hid c3
  have HW := Lib.hid hW
  clear h0 h1 h2 h3 c0 c1 c2 c3 hW
  go_enter Tryz.func92, Tryz.ntmps92
  go_wp2
  rw [HW.out]
  go_loopw [18] (fun iv wr => ∃ k : Nat, k ≤ 4 ∧ iv = .int .i64 k ∧ ((k = 0 ∧ wr = W5) ∨ (k = 1 ∧ R1 wr) ∨ (k = 2 ∧ R2 wr) ∨ (k = 3 ∧ R3 wr) ∨ (k = 4 ∧ R4 wr))) (fun iv _ => 4 - (intOf iv).toNat)
  case atStart => exact ⟨0, by omega, rfl, .inl ⟨rfl, rfl⟩⟩
  case round =>
    obtain ⟨k, hk, rfl, hh⟩ := hrel
    rcases hh with ⟨rfl, rfl⟩ | ⟨rfl, hr⟩ | ⟨rfl, hr⟩ | ⟨rfl, hr⟩ | ⟨rfl, hr⟩
    · have c0 := C0.out
      go_wp2_with (go_at_call 151; (with_reducible refine H0.out.mono ?_); rintro e w2 ⟨rfl, hr⟩; have HR := Lib.hid hr; clear hr)
      go_roundw
      case rel => exact ⟨1, by omega, by go_num, .inr (.inl ⟨rfl, HR.out⟩)⟩
      case measure => simp [intOf]
    · have c1 := C1.out _ hr
      have HX := Lib.hid (H1.out _ hr)
      clear hr
      go_wp2_with (go_at_call 152; (with_reducible refine HX.out.mono ?_); rintro e w2 ⟨rfl, hr⟩; have HR := Lib.hid hr; clear hr)
      go_roundw
      case rel => exact ⟨2, by omega, by go_num, .inr (.inr (.inl ⟨rfl, HR.out⟩))⟩
      case measure => simp [intOf]
    · have c2 := C2.out _ hr
      have HX := Lib.hid (H2.out _ hr)
      clear hr
      go_wp2_with (go_at_call 153; (with_reducible refine HX.out.mono ?_); rintro e w2 ⟨rfl, hr⟩; have HR := Lib.hid hr; clear hr)
      go_roundw
      case rel => exact ⟨3, by omega, by go_num, .inr (.inr (.inr (.inl ⟨rfl, HR.out⟩)))⟩
      case measure => simp [intOf]
    · have c3 := C3.out _ hr
      have HX := Lib.hid (H3.out _ hr)
      clear hr
      go_wp2_with (go_at_call 154; (with_reducible refine HX.out.mono ?_); rintro e w2 ⟨rfl, hr⟩; have HR := Lib.hid hr; clear hr)
      go_roundw
      case rel => exact ⟨4, by omega, by go_num, .inr (.inr (.inr (.inr (⟨rfl, HR.out⟩))))⟩
      case measure => simp [intOf]
    · have HR := Lib.hid hr
      clear hr
      go_wp2
      go_ret
      exact ⟨rfl, HR.out⟩
theorem offV_append (s : ByteArray) (v : View) (t : ByteArray) (b : List UInt8) : offV s (v ++ [(t, b)]) = offV s v ++ (if t = s then [] else [(t, b)]) := by
  unfold offV
  rw [List.filter_append]
  congr 1
  by_cases h : t = s <;> simp [h]
set_option maxHeartbeats 4000000 in
set_option maxRecDepth 100000 in
theorem xWrite (x p q : Nat) (F : Foot) (v : View) (tmp text name : ByteArray) (w : World) (hx : w.cell? ⟨x, 0, none⟩ = some (.pointer (some ⟨p, 0, none⟩))) (hxF : ¬ F x) (hD : Disk w p F v q) (g1 : GoodName tmp) (g2 : GoodName name) (hn : tmp ∉ v.map Prod.fst) (hne : tmp ≠ name)
    (ht1 : 1 ≤ text.size) (ht2 : text.size ≤ 524288) (hM : ∀ y ∈ v, y.2.length ≤ 524288) (hl : v.length ≤ 15) (hq : q ≤ 1000) :
    Calls Tryz.prog 92 #[.pointer (some ⟨x, 0, none⟩), .string tmp, .string text, .string name] w fun e w' => e = .returned (.int .i64 0) ∧ ∃ F', Disk w' p F' (offV name v ++ [(name, text.data.toList)]) (q + 2) ∧ Grew F F' w w' := by
  obtain ⟨W4, hW4⟩ : ∃ W4, (((w.alloc (.cells #[.pointer (some ⟨x, 0, none⟩)] 32)).alloc (.cells #[.string tmp] 9)).alloc (.cells #[.string text] 9)).alloc (.cells #[.string name] 9) = W4 := ⟨_, rfl⟩
  obtain ⟨W5, hW5⟩ : ∃ W5, W4.alloc (.cells #[.func (.func 151) #[] #[.pointer (some ⟨w.heap.size, 0, none⟩), .pointer (some ⟨w.heap.size + 1, 0, none⟩)], .func (.func 152) #[] #[.pointer (some ⟨w.heap.size, 0, none⟩), .pointer (some ⟨w.heap.size + 1, 0, none⟩), .pointer (some ⟨w.heap.size + 2, 0, none⟩)], .func (.func 153) #[] #[.pointer (some ⟨w.heap.size, 0, none⟩), .pointer (some ⟨w.heap.size + 1, 0, none⟩)], .func (.func 154) #[] #[.pointer (some ⟨w.heap.size, 0, none⟩), .pointer (some ⟨w.heap.size + 1, 0, none⟩), .pointer (some ⟨w.heap.size + 3, 0, none⟩)]] 80) = W5 := ⟨_, rfl⟩
  have hz4 : W4.heap.size = w.heap.size + 4 := by rw [← hW4]; simp
  have hb4 : Below w.heap.size w W4 := by rw [← hW4]; exact bl_alloc (bl_alloc (bl_alloc (bl_alloc (Below.refl _ w) _) _) _) _
  have hb5 : Below w.heap.size w W5 := by rw [← hW5]; exact bl_alloc hb4 _
  have a0 : W5.cell? ⟨w.heap.size, 0, none⟩ = some (.pointer (some ⟨x, 0, none⟩)) := by rw [← hW5, ← hW4]; exact cell_al (cell_al (cell_al (cell_al (allocL_cells _ rfl rfl) _) _) _) _
  have a1 : W5.cell? ⟨w.heap.size + 1, 0, none⟩ = some (.string tmp) := by rw [← hW5, ← hW4]; exact cell_al (cell_al (cell_al (allocL_cells _ (by simp) rfl) _) _) _
  have a2 : W5.cell? ⟨w.heap.size + 2, 0, none⟩ = some (.string text) := by rw [← hW5, ← hW4]; exact cell_al (cell_al (allocL_cells _ (by simp) rfl) _) _
  have a3 : W5.cell? ⟨w.heap.size + 3, 0, none⟩ = some (.string name) := by rw [← hW5, ← hW4]; exact cell_al (allocL_cells _ (by simp) rfl) _
  have ax : W5.cell? ⟨x, 0, none⟩ = some (.pointer (some ⟨p, 0, none⟩)) := bl_cell hb5 hx
  have f0 : W5.cell? ⟨w.heap.size + 4, 0, none⟩ = some (.func (.func 151) #[] #[.pointer (some ⟨w.heap.size, 0, none⟩), .pointer (some ⟨w.heap.size + 1, 0, none⟩)]) := by rw [← hW5]; exact allocL_cells _ hz4 rfl
  have f1 : W5.cell? ⟨w.heap.size + 4, 1, none⟩ = some (.func (.func 152) #[] #[.pointer (some ⟨w.heap.size, 0, none⟩), .pointer (some ⟨w.heap.size + 1, 0, none⟩), .pointer (some ⟨w.heap.size + 2, 0, none⟩)]) := by rw [← hW5]; exact allocL_cells _ hz4 rfl
  have f2 : W5.cell? ⟨w.heap.size + 4, 2, none⟩ = some (.func (.func 153) #[] #[.pointer (some ⟨w.heap.size, 0, none⟩), .pointer (some ⟨w.heap.size + 1, 0, none⟩)]) := by rw [← hW5]; exact allocL_cells _ hz4 rfl
  have f3 : W5.cell? ⟨w.heap.size + 4, 3, none⟩ = some (.func (.func 154) #[] #[.pointer (some ⟨w.heap.size, 0, none⟩), .pointer (some ⟨w.heap.size + 1, 0, none⟩), .pointer (some ⟨w.heap.size + 3, 0, none⟩)]) := by rw [← hW5]; exact allocL_cells _ hz4 rfl
  have hFl := hD.lt
  have hst : ∀ y F1, Grew F F1 W5 y → ∀ X o u, ¬ F X → W5.cell? ⟨X, o, none⟩ = some u → y.cell? ⟨X, o, none⟩ = some u := fun y F1 hg X o u hX hu => by
    rw [World.cell?_of_block (hg.upd.block X (World.block_lt_of_cell? W5 _ hu) hX)]
    exact hu
  have nF : ∀ X, w.heap.size ≤ X → ¬ F X := fun X hX e => by have := hFl X e; omega
  have hD5 := hD.below hb5
  have hcv : ∀ (v' : View) q' y, (∃ F1, Disk y p F1 v' q' ∧ Grew F F1 W5 y) → y.cell? ⟨w.heap.size, 0, none⟩ = some (.pointer (some ⟨x, 0, none⟩)) ∧ y.cell? ⟨x, 0, none⟩ = some (.pointer (some ⟨p, 0, none⟩)) ∧ y.cell? ⟨w.heap.size + 1, 0, none⟩ = some (.string tmp) ∧ y.cell? ⟨w.heap.size + 2, 0, none⟩ = some (.string text) ∧ y.cell? ⟨w.heap.size + 3, 0, none⟩ = some (.string name) := fun v' q' y ⟨F1, _, hg⟩ =>
    ⟨hst y F1 hg _ 0 _ (nF _ (by omega)) a0, hst y F1 hg _ 0 _ hxF ax, hst y F1 hg _ 0 _ (nF _ (by omega)) a1, hst y F1 hg _ 0 _ (nF _ (by omega)) a2, hst y F1 hg _ 0 _ (nF _ (by omega)) a3⟩
  have hfin : offV name (offV tmp (v ++ [(tmp, text.data.toList)])) ++ [(name, text.data.toList)] = offV name v ++ [(name, text.data.toList)] := by
    rw [offV_append, if_pos rfl, List.append_nil, offV_none hn]
  have hn3 := g1.2.1
  have key := xWriteGo x tmp text name w W5 _ _ _ _ _ rfl rfl rfl rfl rfl (by rw [← hW5, ← hW4])
    (fun y => ∃ F1, Disk y p F1 (v ++ [(tmp, [])]) (q + 1) ∧ Grew F F1 W5 y) (fun y => ∃ F1, Disk y p F1 (v ++ [(tmp, text.data.toList)]) (q + 1) ∧ Grew F F1 W5 y)
    (fun y => ∃ F1, Disk y p F1 (v ++ [(tmp, text.data.toList)]) (q + 1) ∧ Grew F F1 W5 y) (fun y => ∃ F1, Disk y p F1 (offV name v ++ [(name, text.data.toList)]) (q + 2) ∧ Grew F F1 W5 y)
    f0 (fun y ⟨F1, _, hg⟩ => hst y F1 hg _ 1 _ (nF _ (by omega)) f1) (fun y ⟨F1, _, hg⟩ => hst y F1 hg _ 2 _ (nF _ (by omega)) f2) (fun y ⟨F1, _, hg⟩ => hst y F1 hg _ 3 _ (nF _ (by omega)) f3) ?_ ?_ ?_ ?_
  · exact key.mono fun e w' ⟨h1, F', h2, h3⟩ => ⟨h1, F', h2, Grew.after hb5 h3⟩
  · refine xW1 w.heap.size (w.heap.size + 1) x p tmp W5 _ ⟨a0, ax, a1⟩ (fun y hy => ⟨(hcv _ _ y hy).1, (hcv _ _ y hy).2.1, (hcv _ _ y hy).2.2.1⟩) ?_
    exact (dCreate p q F v tmp W5.drew (drew_disk hD5) g1 hn (by omega) (by omega)).mono fun e w' ⟨h1, F', h2, h3⟩ => ⟨h1, F', h2, h3.undrew⟩
  · intro y hy
    refine xW2 w.heap.size (w.heap.size + 1) x p tmp (w.heap.size + 2) text y _ ⟨(hcv _ _ y hy).1, (hcv _ _ y hy).2.1, (hcv _ _ y hy).2.2.1, (hcv _ _ y hy).2.2.2.1⟩ (fun z hz => ⟨(hcv _ _ z hz).1, (hcv _ _ z hz).2.1, (hcv _ _ z hz).2.2.1, (hcv _ _ z hz).2.2.2.1⟩) ?_
    obtain ⟨F1, hd1, hg1⟩ := hy
    exact (dAppend p (q + 1) F1 v [] tmp [] text y.drew (drew_disk hd1) hn3 ht1 (by omega) (fun z hz => by
      rcases List.mem_append.1 hz with hz | hz
      · exact hM z hz
      · rw [List.mem_singleton] at hz; subst hz; simp) (by simp; omega)).mono fun e w' ⟨h1, F', h2, h3⟩ => ⟨h1, F', by simpa using h2, hg1.trans h3.undrew⟩
  · intro y hy
    refine xW3 w.heap.size (w.heap.size + 1) x p tmp y _ ⟨(hcv _ _ y hy).1, (hcv _ _ y hy).2.1, (hcv _ _ y hy).2.2.1⟩ (fun z hz => ⟨(hcv _ _ z hz).1, (hcv _ _ z hz).2.1, (hcv _ _ z hz).2.2.1⟩) ?_
    obtain ⟨F1, hd1, hg1⟩ := hy
    exact (dSync p (q + 1) F1 _ tmp y.drew (drew_disk hd1) hn3 (by simp)).mono fun e w' ⟨h1, F', h2, h3⟩ => ⟨h1, F', h2, hg1.trans h3.undrew⟩
  · intro y hy
    refine xW4 w.heap.size (w.heap.size + 1) x p tmp (w.heap.size + 3) name y _ ⟨(hcv _ _ y hy).1, (hcv _ _ y hy).2.1, (hcv _ _ y hy).2.2.1, (hcv _ _ y hy).2.2.2.2⟩ (fun z hz => ⟨(hcv _ _ z hz).1, (hcv _ _ z hz).2.1, (hcv _ _ z hz).2.2.1, (hcv _ _ z hz).2.2.2.2⟩) ?_
    obtain ⟨F1, hd1, hg1⟩ := hy
    exact (dRename p (q + 1) F1 _ tmp name text.data.toList y.drew (drew_disk hd1) g2 hn3 (by simp) hne (by omega) (by simp; omega)).mono fun e w' ⟨h1, F', h2, h3⟩ => ⟨h1, F', by rw [hfin] at h2; exact h2, hg1.trans h3.undrew⟩
end Go.Proofs.YtbhfbdcmamodcaaGreatDoor
namespace Go.Proofs.YtbhfbdcmamodcaaGreatDoor
open TrMath LgMath
def grC (cs : List ComP) : Gr := cs.map Prod.fst
theorem grC_par (cs : List ComP) (n : Nat) : par (grC cs) n = (cs.getD n ([], 0)).1 := by
  unfold par grC
  rw [List.getD_eq_getElem?_getD, List.getElem?_map, List.getD_eq_getElem?_getD]
  cases cs[n]? <;> rfl
theorem GoodS.lowG {ts : List Ents} {cs : List ComP} (h : GoodS ts cs) : LowG (grC cs) := fun c p hp => by
  rw [grC_par, List.getD_eq_getElem?_getD] at hp
  cases e : cs[c]? with
  | none => rw [e] at hp; cases hp
  | some y => rw [e] at hp; exact (h.commits c y e).2.1 p hp
theorem foldl_max_le : ∀ (l : List Nat) (b x : Nat), x ∈ l ∨ x ≤ b → x ≤ l.foldl max b
  | [], b, x, h => by
    rcases h with h | h
    · cases h
    · exact h
  | y :: r, b, x, h => by
    rw [List.foldl_cons]
    refine foldl_max_le r (max b y) x ?_
    rcases h with h | h
    · rcases List.mem_cons.1 h with h | h
      · exact .inr (by omega)
      · exact .inl h
    · exact .inr (by omega)
theorem genAt_small (cs : List ComP) (n : Nat) : 1 ≤ genAt cs n ∧ genAt cs n ≤ 1023 := by
  rw [genAt_eq]
  exact nextG_pos _
theorem gen_par {cs : List ComP} (hG : LowG (grC cs)) {c p : Nat} (hp : p ∈ par (grC cs) c) : genAt cs p < genAt cs c ∨ genAt cs c = 1023 := by
  have hlt := hG c p hp
  rw [grC_par] at hp
  have h1 : genAt cs p = (gensN cs c).getD p 0 := by
    unfold genAt
    rw [gensN_getD cs (Nat.lt_succ_self p) (by omega : p + 1 ≤ c)]
  have h2 : (gensN cs c).getD p 0 ≤ highG ((cs.getD c ([], 0)).1.map fun p => (gensN cs c).getD p 0) := by
    unfold highG
    exact foldl_max_le _ _ _ (.inl (List.mem_map.2 ⟨p, hp, rfl⟩))
  have h3 : genAt cs c = min (highG ((cs.getD c ([], 0)).1.map fun p => (gensN cs c).getD p 0) + 1) 1023 := by
    rw [genAt_eq]; rfl
  omega
theorem gen_anc {cs : List ComP} (hG : LowG (grC cs)) {x a : Nat} (h : Anc (grC cs) x a) : x = a ∨ genAt cs a < genAt cs x ∨ genAt cs x = 1023 := by
  induction h with
  | refl => exact .inl rfl
  | tail h1 h2 ih =>
    have h3 := gen_par hG h2
    have := genAt_small cs x
    rcases ih with rfl | ih | ih
    · omega
    · omega
    · omega
def genV (cs : List ComP) (k n : Nat) : Nat := if n < k then genAt cs n else 1024
def mayG (a b : Nat) : Bool := decide (a = 1024) || (!decide (b = 1024) && (decide (a = 1023) || decide (b < a)))
theorem may_anc {cs : List ComP} (hG : LowG (grC cs)) (k : Nat) {x a : Nat} (h : Anc (grC cs) x a) (hn : x ≠ a) : mayG (genV cs k x) (genV cs k a) = true := by
  have hlt := h.lt hG hn
  have h1 := gen_anc hG h
  have hx := genAt_small cs x
  have ha := genAt_small cs a
  unfold mayG genV
  by_cases h2 : x < k
  · rw [if_pos h2, if_pos (by omega)]
    rcases h1 with h1 | h1 | h1
    · exact absurd h1 hn
    · have e1 : ¬ genAt cs a = 1024 := by omega
      simp [h1, e1]
    · have e1 : ¬ genAt cs a = 1024 := by omega
      simp [h1, e1]
  · rw [if_neg h2]; rfl
theorem genV_small (cs : List ComP) (k n : Nat) : 1 ≤ genV cs k n ∧ genV cs k n ≤ 1024 := by
  have := genAt_small cs n
  unfold genV
  split <;> omega
end Go.Proofs.YtbhfbdcmamodcaaGreatDoor
