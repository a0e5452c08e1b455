/- The whole: the names on the index's disk; which of them a layer's clearing leaves; The whole: a layer is laid: its link; The whole: whether an index is ready for a store; The whole: what an update leaves, told of the index as it stands; The whole: Compact; The whole: Compact, walked; The index's disk, plain: the log, the chain and the graph files of the layers that stand; Layers over commits, plain; The whole: Update, where nothing is new, and where the layers are many; The store, the disk and the index, all together: what each step leaves; The whole: the usual settings. -/
import Derived.Test.YtbhfbdcmamodcaaGreatDoorL26
import Derived.Test.YtbhfbdcmamodcaaGreatDoorL36
import Derived.Test.YtbhfbdcmamodcaaGreatDoorL45
import Derived.Test.YtbhfbdcmamodcaaGreatDoorL06
import Derived.Test.YtbhfbdcmamodcaaGreatDoorL20
import Derived.Deep.Cut
set_option linter.unusedVariables false
set_option linter.unusedSimpArgs false
namespace Go.Proofs.YtbhfbdcmamodcaaGreatDoor
open Go.RowKit Go.Maps TrMath FrMath PackMath SumMath
abbrev tmpG : ByteArray := ⟨#[103, 114, 97, 112, 104, 46, 116, 109, 112]⟩
abbrev tmpC : ByteArray := ⟨#[99, 104, 97, 105, 110, 46, 116, 109, 112]⟩
abbrev chainN : ByteArray := ⟨#[99, 104, 97, 105, 110]⟩
theorem names_100 : (List.range 100).all (fun n => decide (1 ≤ (nameG n).size) && decide ((nameG n).size ≤ 32) && !(nameG n).data.toList.any outB && decide (nameG n ≠ tmpG) && decide (nameG n ≠ tmpC) && decide (nameG n ≠ chainN) && decide (nameG n ≠ logN)) = true := by kernel_rfl
theorem name_all {n : Nat} (h : n < 100) : GoodName (nameG n) ∧ nameG n ≠ tmpG ∧ nameG n ≠ tmpC ∧ nameG n ≠ chainN ∧ nameG n ≠ logN := by
  have := List.all_eq_true.1 names_100 n (List.mem_range.2 h)
  simp only [Bool.and_eq_true, Bool.not_eq_true', decide_eq_true_eq] at this
  obtain ⟨⟨⟨⟨⟨⟨h1, h2⟩, h3⟩, h4⟩, h5⟩, h6⟩, h7⟩ := this
  exact ⟨⟨h1, h2, h3⟩, h4, h5, h6, h7⟩
def NameOk (s : ByteArray) : Prop := s = logN ∨ s = chainN ∨ ∃ k, k < 100 ∧ s = nameG k
theorem NameOk.small {s : ByteArray} (h : NameOk s) : s.size ≤ 32 ∧ s.size ≠ 0 := by
  rcases h with rfl | rfl | ⟨k, hk, rfl⟩
  · decide
  · decide
  · have h1 := (name_all hk).1.1
    have h2 := (name_all hk).1.2
    exact ⟨h2.1, by omega⟩
def keepN (L : List Link) (s : ByteArray) : Bool := (List.range 100).all fun m => !decide (s = nameG m) || L.any fun y => decide (y.1 = m)
theorem keep_name {L : List Link} {k : Nat} (h : k < 100) : keepN L (nameG k) = L.any fun y => decide (y.1 = k) := by
  unfold keepN
  rw [Bool.eq_iff_iff, List.all_eq_true]
  constructor
  · intro H
    have := H k (List.mem_range.2 h)
    simpa using this
  · intro H m hm
    by_cases e : nameG k = nameG m
    · have := nameG_inj h (List.mem_range.1 hm) e
      subst this
      rw [H]; simp
    · simp [e]
theorem keep_other {L : List Link} {s : ByteArray} (h : ∀ m, m < 100 → s ≠ nameG m) : keepN L s = true := by
  unfold keepN
  rw [List.all_eq_true]
  intro m hm
  simp [h m (List.mem_range.1 hm)]
theorem keep_log (L : List Link) : keepN L logN = true := keep_other fun m hm e => (name_all hm).2.2.2.2 e.symm
theorem keep_chain (L : List Link) : keepN L chainN = true := keep_other fun m hm e => (name_all hm).2.2.2.1 e.symm
def leftV (L : List Link) (ns : List ByteArray) (V : View) : View := V.filter fun y => keepN L y.1 || ns.all fun s => decide (y.1 ≠ s)
theorem left_nil (L : List Link) (V : View) : leftV L [] V = V := by
  unfold leftV
  rw [List.filter_eq_self]
  intro y hy
  simp
theorem left_keep {L : List Link} {s : ByteArray} {ns : List ByteArray} {V : View} (h : keepN L s = true) : leftV L (ns ++ [s]) V = leftV L ns V := by
  unfold leftV
  apply List.filter_congr
  intro y hy
  rw [List.all_append]
  by_cases e : y.1 = s
  · rw [e, h]; rfl
  · simp [e]
theorem left_off {L : List Link} {s : ByteArray} {ns : List ByteArray} {V : View} (h : keepN L s = false) : leftV L (ns ++ [s]) V = offV s (leftV L ns V) := by
  unfold leftV offV
  rw [List.filter_filter]
  apply List.filter_congr
  intro y hy
  rw [List.all_append]
  by_cases e : y.1 = s
  · rw [e, h]; simp
  · simp [e]
theorem left_mem {L : List Link} {s : ByteArray} {ns : List ByteArray} {V : View} (h : s ∈ V.map Prod.fst) (hn : s ∉ ns) : s ∈ (leftV L ns V).map Prod.fst := by
  obtain ⟨y, hy, rfl⟩ := List.mem_map.1 h
  refine List.mem_map.2 ⟨y, List.mem_filter.2 ⟨hy, ?_⟩, rfl⟩
  have : (ns.all fun s => decide (y.1 ≠ s)) = true := List.all_eq_true.2 fun t ht => decide_eq_true fun e => hn (e ▸ ht)
  rw [this, Bool.or_true]
theorem left_all {L : List Link} {ns : List ByteArray} {V : View} (h : ∀ y ∈ V, y.1 ∈ ns) : leftV L ns V = V.filter fun y => keepN L y.1 := by
  unfold leftV
  apply List.filter_congr
  intro y hy
  have : (ns.all fun s => decide (y.1 ≠ s)) = false := by
    cases e : ns.all fun s => decide (y.1 ≠ s)
    · rfl
    · exact absurd rfl (of_decide_eq_true (List.all_eq_true.1 e _ (h y hy)))
  rw [this, Bool.or_false]
theorem left_len (L : List Link) (ns : List ByteArray) (V : View) : (leftV L ns V).length ≤ V.length := List.length_filter_le _ _
theorem Disk.nodup {w : World} {p q : Nat} {F : Foot} {v : View} (h : Disk w p F v q) : (v.map Prod.fst).Nodup := by
  obtain ⟨d, hd, _, rfl, _⟩ := h
  obtain ⟨D, _, hR⟩ := hd.map
  rw [view_names]
  exact hR.nodup
theorem SynOk.stays {w x : World} (h : SynOk w) (hs : x.heap[nmLaysC172_ren.g 15]? = w.heap[nmLaysC172_ren.g 15]?) : SynOk x := by
  obtain ⟨ev, h1, h2⟩ := h
  exact ⟨ev, (World.cell?_of_block hs).trans h1, h2⟩
theorem SynOk.lt {w : World} (h : SynOk w) : nmLaysC172_ren.g 15 < w.heap.size := by
  obtain ⟨ev, h1, h2⟩ := h
  exact World.block_lt_of_cell? w _ h1
theorem xNumber (L : List Link) (s : ByteArray) (h : NameOk s) (w : World) (hv : SynOk w) :
    Calls Tryz.prog 96 #[.string s] w fun e w' => ∃ (num : Nat) (ok : Bool), e = .returned (.tuple #[.int .i64 (num : Nat), .bool ok]) ∧ Below w.heap.size w w' ∧ keepN L s = (!ok || L.any fun y => decide (y.1 = num)) := by
  rcases h with rfl | rfl | ⟨k, hk, rfl⟩
  · refine (nNumberNo logN (by decide) (by decide) (by decide) w hv).mono fun e w' ⟨h1, h2⟩ => ⟨0, false, h1, h2, ?_⟩
    rw [keep_log]; rfl
  · refine (nNumberNo chainN (by decide) (by decide) (by decide) w hv).mono fun e w' ⟨h1, h2⟩ => ⟨0, false, h1, h2, ?_⟩
    rw [keep_chain]; rfl
  · refine (nNumber k hk w).mono fun e w' ⟨h1, h2⟩ => ⟨k, true, h1, h2, ?_⟩
    rw [keep_name hk]; rfl
theorem xHas (L : List Link) (a : Option Addr) (c : Nat) (hl : L.length ≤ 100) (num b : Nat) (w : World) (h : CellsAt w a (L.flatMap linkV)) (hc : w.cell? ⟨b, 0, none⟩ = some (.int .i64 (num : Nat))) :
    Calls Tryz.prog 97 #[.slice a L.length c, .func (.func 98) #[] #[.pointer (some ⟨b, 0, none⟩)]] w fun e w' => e = .returned (.bool (L.any fun y => decide (y.1 = num))) ∧ Below w.heap.size w w' :=
  layLinkHas (fun y => decide (y.1 = num)) (.pointer (some ⟨b, 0, none⟩)) L a c (by unfold maxLen; omega) w h fun y _ W hW => layNum y b num W (bl_cell hW hc)
end Go.Proofs.YtbhfbdcmamodcaaGreatDoor
namespace Go.Proofs.YtbhfbdcmamodcaaGreatDoor
open Go.RowKit Go.Maps TrMath FrMath PackMath SumMath
def textG (g : GraphP) : ByteArray := ⟨(graphB g).toArray⟩
def linkOf (n : Nat) (g : GraphP) : Link := (n, g.rows.length, crc (graphB g))
theorem tmpG_good : GoodName tmpG := ⟨by decide, by decide, by decide⟩
theorem tmpC_good : GoodName tmpC := ⟨by decide, by decide, by decide⟩
theorem chain_good : GoodName chainN := ⟨by decide, by decide, by decide⟩
def layV (v : View) (n : Nat) (g : GraphP) (L : List Link) : View := offV chainN (offV (nameG n) v ++ [(nameG n, graphB g)]) ++ [(chainN, chainB L)]
theorem off_names {s t : ByteArray} {v : View} (h : t ∉ v.map Prod.fst) : t ∉ (offV s v).map Prod.fst := fun hm => by
  obtain ⟨y, hy, rfl⟩ := List.mem_map.1 hm
  exact h (List.mem_map.2 ⟨y, (List.mem_filter.1 hy).1, rfl⟩)
theorem off_sub {s : ByteArray} {v : View} {y : ByteArray × List UInt8} (h : y ∈ offV s v) : y ∈ v := (List.mem_filter.1 h).1
theorem off_le (s : ByteArray) (v : View) : (offV s v).length ≤ v.length := List.length_filter_le _ _
theorem link_oneX (n l s : Nat) : ∀ u ∈ [Value.int .i64 (n : Nat), .int .i64 (l : Nat), .int .u32 (s : Nat)], u.oneCell' = true := by
  intro u hu; simp at hu; rcases hu with rfl | rfl | rfl <;> rfl
structure Near (w0 : World) (x : Nat) (p u2 : Value) (W : World) : Prop where
  upd : Upd (fun k => k = x) w0 W
  box : ∃ u1, W.heap[x]? = some (.cells #[p, u1, u2] 97 (0, 0))
theorem Near.stay {w0 W : World} {x : Nat} {p u2 : Value} (h : Near w0 x p u2 W) : ∀ k, k < w0.heap.size → k ≠ x → W.heap[k]? = w0.heap[k]? := fun k hk hn => h.upd.block k hk hn
theorem Near.size {w0 W : World} {x : Nat} {p u2 : Value} (h : Near w0 x p u2 W) : w0.heap.size ≤ W.heap.size := h.upd.size
theorem Near.lt {w0 W : World} {x : Nat} {p u2 : Value} (h : Near w0 x p u2 W) : x < W.heap.size := by obtain ⟨u, hu⟩ := h.box; exact (Array.getElem?_eq_some_iff.1 hu).1
theorem Near.drew {w0 W : World} {x : Nat} {p u2 : Value} (h : Near w0 x p u2 W) : Near w0 x p u2 W.drew := ⟨h.upd.drew, h.box⟩
theorem Near.below {w0 W Y : World} {x : Nat} {p u2 : Value} (h : Near w0 x p u2 W) (hb : Below W.heap.size W Y) : Near w0 x p u2 Y := by
  have hx := h.lt
  obtain ⟨u, hu⟩ := h.box
  exact ⟨h.upd.thenB hb, u, (hb.block x hx).trans hu⟩
theorem Near.alloc {w0 W : World} {x : Nat} {p u2 : Value} (h : Near w0 x p u2 W) (o : Obj) : Near w0 x p u2 (W.alloc o) := h.below (bl_alloc (Below.refl _ W) o)
theorem Near.set {w0 W : World} {x : Nat} {p u2 : Value} (h : Near w0 x p u2 W) (v : Value) : Near w0 x p u2 (W.setCell ⟨x, 1, none⟩ v) := by
  obtain ⟨u, hu⟩ := h.box
  exact ⟨h.upd.set x 1 v (.inl rfl), v, by rw [heap_setCell_same W x 1 _ _ _ hu]; rfl⟩
theorem Near.grown {w0 W Y : World} {x : Nat} {p u2 : Value} {r : Option Nat} (h : Near w0 x p u2 W) (hg : W.grownBy Y r) (hr : ∀ g, r = some g → w0.heap.size ≤ g) (hx : x < w0.heap.size) : Near w0 x p u2 Y := by
  obtain ⟨u, hu⟩ := h.box
  have hn : ∀ k, k < w0.heap.size → some k ≠ r := fun k hk e => by have := hr k e.symm; omega
  exact ⟨h.upd.grown hg (fun g e => .inr (hr g e)), u, (hg.block x h.lt (hn x hx)).trans hu⟩
theorem Near.cells {w0 W : World} {x : Nat} {p u2 : Value} (h : Near w0 x p u2 W) : ∃ u1, W.cell? ⟨x, 1, none⟩ = some u1 ∧ W.cell? ⟨x, 2, none⟩ = some u2 ∧ W.frozen? ⟨x, 1, none⟩ = false ∧ W.frozen? ⟨x, 2, none⟩ = false := by
  obtain ⟨u, hu⟩ := h.box
  exact ⟨u, by rw [cell_of_row _ _ _ _ _ _ hu]; rfl, by rw [cell_of_row _ _ _ _ _ _ hu]; rfl, frozen_of_row _ _ _ _ _ hu, frozen_of_row _ _ _ _ _ hu⟩
theorem Near.cell {w0 W : World} {x b o : Nat} {p u2 v : Value} (h : Near w0 x p u2 W) (hc : w0.cell? ⟨b, o, none⟩ = some v) (hn : b ≠ x) : W.cell? ⟨b, o, none⟩ = some v := by
  rw [World.cell?_of_block (h.stay b (World.block_lt_of_cell? w0 _ hc) hn)]
  exact hc
theorem Near.done {w0 W : World} {x : Nat} {p u2 a b : Value} {l : List GrE} (h : Near w0 x p u2 W) (hx : x < w0.heap.size) (hv : OwnX 103 6 graphC W w0.heap.size b l) :
    ((W.setCell ⟨x, 1, none⟩ a).setCell ⟨x, 2, none⟩ b).heap[x]? = some (.cells #[p, a, b] 97 (0, 0)) ∧ OwnX 103 6 graphC ((W.setCell ⟨x, 1, none⟩ a).setCell ⟨x, 2, none⟩ b) w0.heap.size b l ∧
    Upd (fun k => k = x) w0 ((W.setCell ⟨x, 1, none⟩ a).setCell ⟨x, 2, none⟩ b) := by
  obtain ⟨u, hu⟩ := h.box
  have h1 := heap_setCell_same W x 1 _ _ a hu
  have h2 := heap_setCell_same _ x 2 _ _ b h1
  have hst : ∀ k, k ≠ x → ((W.setCell ⟨x, 1, none⟩ a).setCell ⟨x, 2, none⟩ b).heap[k]? = W.heap[k]? := fun k hk => by rw [heap_setCell_other _ _ _ _ hk, heap_setCell_other _ _ _ _ hk]
  exact ⟨h2, hv.stays fun g e => hst g (by have := (hv.lt g e).1; omega), (h.upd.set x 1 a (.inl rfl)).set x 2 b (.inl rfl)⟩
theorem one_gr (e : GrE) : ∀ u ∈ graphC e, u.oneCell' = true := fun u hu => graphC_one [e] u (by simpa using hu)
theorem cells_keep {w wg : World} {xs : List Value} {t : TypeId} (hb : Below (w.alloc (.cells xs.toArray t)).drew.heap.size (w.alloc (.cells xs.toArray t)).drew wg) : ∀ (j : Nat) u, xs[j]? = some u → wg.cell? ((⟨w.heap.size, 0, none⟩ : Addr).add j) = some u := fun j u hj => by
  have h1 := cells_new w xs t rfl j u hj
  rw [show (⟨w.heap.size, 0, none⟩ : Addr).add j = ⟨w.heap.size, 0 + j, none⟩ from by unfold Addr.add; split <;> simp_all] at h1 ⊢
  exact bl_cell (w := (w.alloc (.cells xs.toArray t)).drew) hb h1
theorem cells_keep2 {w wg : World} {xs : List Value} {t : TypeId} (hb : Below (w.drew.alloc (.cells xs.toArray t)).heap.size (w.drew.alloc (.cells xs.toArray t)) wg) : ∀ (j : Nat) u, xs[j]? = some u → wg.cell? ((⟨w.heap.size, 0, none⟩ : Addr).add j) = some u := fun j u hj => by
  have h1 := cells_new w.drew xs t rfl j u hj
  rw [show (⟨w.drew.heap.size, 0, none⟩ : Addr).add j = ⟨w.heap.size, 0 + j, none⟩ from by unfold Addr.add; split <;> simp_all] at h1
  rw [show (⟨w.heap.size, 0, none⟩ : Addr).add j = ⟨w.heap.size, 0 + j, none⟩ from by unfold Addr.add; split <;> simp_all]
  exact bl_cell hb h1
structure Laid7 (w w' : World) (x p : Nat) (F : Foot) (V : View) (L : List Link) (G : List GrE) : Prop where
  out : ∃ F' q' a c gg gc, Disk w' p F' V q' ∧ q' ≤ 20 ∧ w'.heap[x]? = some (.cells #[.pointer (some ⟨p, 0, none⟩), .slice a L.length c, .slice (some ⟨gg, 0, none⟩) G.length gc] 97 (0, 0)) ∧
    OwnX 149 3 linkV w' w.heap.size (.slice a L.length c) L ∧ OwnX 103 6 graphC w' w.heap.size (.slice (some ⟨gg, 0, none⟩) G.length gc) G ∧
    (∀ k, F' k → F k ∨ w.heap.size ≤ k) ∧ (∀ k, k ∈ (Value.slice a L.length c).ownBlock.toList ∨ k = gg → ¬ F' k) ∧ (∀ k, k ∈ (Value.slice a L.length c).ownBlock.toList → k ≠ gg)
  upd : Upd (fun k => F k ∨ k = x) w w'
set_option maxHeartbeats 4000000 in
set_option maxRecDepth 100000 in
theorem xLay {w : World} {x p q : Nat} {I : IndexS} {R F : Foot} {v : View} (hI : IndexAt w x I R) (hp : I.disk = p) (hD : Disk w p F v q) (hap : Apart F (I.foot x R)) (hq : q ≤ 900) (hM : ∀ y ∈ v, y.2.length ≤ 524288) (hvl : v.length ≤ 12)
    (hnt1 : tmpG ∉ v.map Prod.fst) (hnt2 : tmpC ∉ v.map Prod.fst) (hnm : ∀ y ∈ v, NameOk y.1)
    (la : Option Addr) (lc : Nat) (L : List Link) (hL : CellsAt w la (L.flatMap linkV)) (ga : Option Addr) (gc : Nat) (G : List GrE) (hG : CellsAt w ga (G.flatMap graphC)) (hGl : G.length ≤ 8) (hgaF : ∀ b off, ga = some ⟨b, off, none⟩ → ¬ F b ∧ b < w.heap.size ∧ b ≠ x)
    (ra : Option Addr) (rc : Nat) (g : GraphP) (hE : RowsAt w ra g.rows) (hEc : g.rows.length ≤ rc ∧ rc ≤ maxLen) (hgood : GoodGraph g) (htext : (graphB g).length ≤ 524288) (n : Nat) (hn : nextN I.links = n) (hn1 : n < 100) (hl8 : I.links.length ≤ 8) (hl100 : ∀ y ∈ I.links, y.1 < 100) (hL8 : L.length ≤ 8) (hgc : GoodChain (L ++ [linkOf n g]))
    (hsyn : SynOk w) (hsynF : ¬ F (nmLaysC172_ren.g 15)) (hsynx : nmLaysC172_ren.g 15 ≠ x) :
    Calls Tryz.prog 41 #[.pointer (some ⟨x, 0, none⟩), .slice la L.length lc, .slice ga G.length gc, .agg #[.int .i64 (g.base : Nat), .int .i64 (g.set.H : Nat), .int .i64 (g.set.P : Nat), .int .i64 (g.set.M : Nat), .int .u32 (g.set.S : Nat), .slice ra g.rows.length rc]] w fun e w' => e = .returned (.int .i64 0) ∧ Laid7 w w' x p F ((layV v n g (L ++ [linkOf n g])).filter fun y => keepN (L ++ [linkOf n g]) y.1) (L ++ [linkOf n g]) (G ++ [⟨ra, g.rows.length, rc, g⟩]) := by
  obtain ⟨i0, hi, hz0, hz1, hz2⟩ := info_parts infoLink
  obtain ⟨xa, xc, hxl, hxcells, _, _, _, _⟩ := hI.lv.sl
  obtain ⟨W1, hW1⟩ : ∃ W1, w.alloc (.cells #[.int .i64 (g.base : Nat), .int .i64 (g.set.H : Nat), .int .i64 (g.set.P : Nat), .int .i64 (g.set.M : Nat), .int .u32 (g.set.S : Nat), .slice ra g.rows.length rc] 103) = W1 := ⟨_, rfl⟩
  have hb1 : Below w.heap.size w W1 := by rw [← hW1]; exact bl_alloc (Below.refl _ w) _
  have hbox : W1.heap[w.heap.size]? = some (.cells #[.int .i64 (g.base : Nat), .int .i64 (g.set.H : Nat), .int .i64 (g.set.P : Nat), .int .i64 (g.set.M : Nat), .int .u32 (g.set.S : Nat), .slice ra g.rows.length rc] 103 (0, 0)) := by rw [← hW1]; exact heap_alloc_new _ _
  have HEn := Lib.hid (show Calls Tryz.prog 87 #[.agg #[.int .i64 (g.base : Nat), .int .i64 (g.set.H : Nat), .int .i64 (g.set.P : Nat), .int .i64 (g.set.M : Nat), .int .u32 (g.set.S : Nat), .slice ra g.rows.length rc]] W1 fun e w' => e = .returned (.tuple #[.string (textG g), .int .i64 0]) ∧ Below W1.heap.size W1 w' from by
    have := gEncode g hgood ra rc hEc.1 hEc.2 W1 (hE.below hb1)
    exact this)
  have HNx := Lib.hid (show ∀ W, Below W1.heap.size W1 W → Calls Tryz.prog 88 #[.slice xa I.links.length xc] W fun e w' => e = .returned (.int .i64 (n : Nat)) ∧ Below W.heap.size W w' from fun W hW => by
    have := lcNext I.links (by omega) (fun y hy => by have := hl100 y hy; omega) xa xc W ((hxcells.below hb1).below hW)
    rwa [hn] at this)
  have HCl := Lib.hid (fun W (hW : Below W1.heap.size W1 W) => kCloneLink L la lc (by omega) W ((hL.below hb1).below hW))
  have htl : (textG g).size ≤ 4194304 := by
    have := graphB_len g
    have := hgood.small
    show (graphB g).toArray.size ≤ _
    simp; omega
  have htx : (textG g).data.toList = graphB g := by unfold textG; simp
  have HSm := Lib.hid (show ∀ W b, StrsAt W (some ⟨b, 0, none⟩) [textG g] → Calls Tryz.prog 90 #[.slice (some ⟨b, 0, none⟩) 1 1] W fun e w' => e = .returned (.int .u32 (crc (graphB g) : Nat)) ∧ Below W.heap.size W w' from fun W b hW => by
    have := sum_at (some ⟨b, 0, none⟩) 1 1 [textG g] rfl (by decide) W hW
    rw [flat_one, htx] at this
    exact this)
  have HEc := Lib.hid (fun W a c (hW : OwnX 149 3 linkV W W1.heap.size (.slice a (L.length + 1) c) (L ++ [linkOf n g])) => show Calls Tryz.prog 91 #[.slice a (L.length + 1) c] W fun e w' => e = .returned (.tuple #[.string ⟨(chainB (L ++ [linkOf n g])).toArray⟩, .int .i64 0]) ∧ Below W.heap.size W w' from by
    obtain ⟨a', c', e1, e2, e3, e4, _, _⟩ := hW.sl
    have e5 := (Value.slice.inj e1)
    obtain ⟨rfl, _, rfl⟩ := e5
    have := lcEncode (L ++ [linkOf n g]) hgc a c e3 e4 W e2
    rw [List.length_append] at this
    exact this)
  obtain ⟨nok, ng1, ng2, ng3, ng4⟩ := name_all hn1
  have hcl : (⟨(chainB (L ++ [linkOf n g])).toArray⟩ : ByteArray).size = 10 + 12 * (L.length + 1) := by
    show (chainB (L ++ [linkOf n g])).toArray.size = _
    simp [chainB_len]
  have hFl := hD.lt
  have hxF : ¬ F x := fun e => hap x e (.inl xown_x)
  have cx0 : w.cell? ⟨x, 0, none⟩ = some (.pointer (some ⟨p, 0, none⟩)) := by rw [cell_of_row _ _ _ _ _ _ hI.box, ← hp]; rfl
  have hnv1 : tmpC ∉ (offV (nameG n) v ++ [(nameG n, graphB g)]).map Prod.fst := fun hm => by
    rw [List.map_append] at hm
    rcases List.mem_append.1 hm with hm | hm
    · exact off_names hnt2 hm
    · simp at hm; exact ng2 hm.symm
  have hMv1 : ∀ y ∈ offV (nameG n) v ++ [(nameG n, graphB g)], y.2.length ≤ 524288 := fun y hy => by
    rcases List.mem_append.1 hy with hy | hy
    · exact hM y (off_sub hy)
    · rw [List.mem_singleton] at hy; subst hy; exact htext
  have hlv1 : (offV (nameG n) v ++ [(nameG n, graphB g)]).length ≤ 13 := by
    rw [List.length_append]; have := off_le (nameG n) v; simp; omega
  have hgl1 : (graphB g).length = 50 + bulkK (chunksG g) := graphB_len g
  have HNm := Lib.hid (fun W => nName n hn1 W)
  have HWr1 := Lib.hid (show ∀ W, Below w.heap.size w W → Calls Tryz.prog 92 #[.pointer (some ⟨x, 0, none⟩), .string tmpG, .string (textG g), .string (nameG n)] W fun e w' => e = .returned (.int .i64 0) ∧ ∃ F', Disk w' p F' (offV (nameG n) v ++ [(nameG n, graphB g)]) (q + 2) ∧ Grew F F' W w' from fun W hW => by
    have hts : (textG g).size = (graphB g).length := by show (graphB g).toArray.size = _; simp
    have := xWrite x p q F v tmpG (textG g) (nameG n) W (bl_cell hW cx0) hxF (hD.below hW) tmpG_good nok hnt1 (Ne.symm ng1) (by omega) (by omega) hM (by omega) (by omega)
    rw [show (textG g).data.toList = graphB g from by unfold textG; simp] at this
    exact this)
  have HWr2 := Lib.hid (show ∀ W W0, Below w.heap.size w W0 → (∃ F1, Disk W p F1 (offV (nameG n) v ++ [(nameG n, graphB g)]) (q + 2) ∧ Grew F F1 W0 W) → Calls Tryz.prog 92 #[.pointer (some ⟨x, 0, none⟩), .string tmpC, .string ⟨(chainB (L ++ [linkOf n g])).toArray⟩, .string chainN] W fun e w' => e = .returned (.int .i64 0) ∧ ∃ F', Disk w' p F' (layV v n g (L ++ [linkOf n g])) (q + 4) ∧ Grew F F' W0 w' from fun W W0 hW0 ⟨F1, d1, g1⟩ => by
    have hxw : x < W0.heap.size := Nat.lt_of_lt_of_le (World.block_lt_of_cell? w _ cx0) hW0.size
    have hxF1 : ¬ F1 x := fun e => by
      rcases g1.sub x e with h | h
      · exact hxF h
      · omega
    have hcx : W.cell? ⟨x, 0, none⟩ = some (.pointer (some ⟨p, 0, none⟩)) := by
      rw [World.cell?_of_block (g1.upd.block x hxw hxF)]
      exact bl_cell hW0 cx0
    exact (xWrite x p (q + 2) F1 _ tmpC ⟨(chainB (L ++ [linkOf n g])).toArray⟩ chainN W hcx hxF1 d1 tmpC_good chain_good hnv1 (by decide) (by omega) (by omega) hMv1 (by omega) (by omega)).mono fun e w' ⟨h1, F', h2, h3⟩ => ⟨h1, F', h2, g1.trans h3⟩)
  have HX0 := Lib.hid (show ∀ W W0, Below w.heap.size w W0 → (∃ F1, Disk W p F1 (layV v n g (L ++ [linkOf n g])) (q + 4) ∧ Grew F F1 W0 W) → W.cell? ⟨x, 0, none⟩ = some (.pointer (some ⟨p, 0, none⟩)) from fun W W0 hW0 ⟨F1, _, g1⟩ => by
    rw [World.cell?_of_block (g1.upd.block x (Nat.lt_of_lt_of_le (World.block_lt_of_cell? w _ cx0) hW0.size) hxF)]
    exact bl_cell hW0 cx0)
  have hnem : (⟨#[]⟩ : ByteArray) ∉ (layV v n g (L ++ [linkOf n g])).map Prod.fst := fun hm => by
    have hz : ∀ s : ByteArray, NameOk s → s.size ≠ 0 := fun s hs => by
      rcases hs with rfl | rfl | ⟨k, hk, rfl⟩
      · decide
      · decide
      · have := (name_all hk).1.1; omega
    unfold layV at hm
    rw [List.map_append] at hm
    rcases List.mem_append.1 hm with hm | hm
    · obtain ⟨y, hy, hy2⟩ := List.mem_map.1 hm
      have hy3 := off_sub hy
      rcases List.mem_append.1 hy3 with hy3 | hy3
      · exact hz _ (hnm y (off_sub hy3)) (by rw [hy2]; rfl)
      · rw [List.mem_singleton] at hy3
        subst hy3
        have e : nameG n = ⟨#[]⟩ := hy2
        exact hz _ (.inr (.inr ⟨n, hn1, rfl⟩)) (by rw [e]; rfl)
    · simp at hm
  have HNM := Lib.hid (show ∀ y ∈ layV v n g (L ++ [linkOf n g]), NameOk y.1 from fun y hy => by
    unfold layV at hy
    rcases List.mem_append.1 hy with hy | hy
    · have hy3 := off_sub hy
      rcases List.mem_append.1 hy3 with hy3 | hy3
      · exact hnm y (off_sub hy3)
      · rw [List.mem_singleton] at hy3
        subst hy3
        exact .inr (.inr ⟨n, hn1, rfl⟩)
    · rw [List.mem_singleton] at hy
      subst hy
      exact .inr (.inl rfl))
  have HVL := Lib.hid (show (layV v n g (L ++ [linkOf n g])).length ≤ 14 ∧ layV v n g (L ++ [linkOf n g]) ≠ [] from by
    refine ⟨?_, fun e => ?_⟩
    · unfold layV
      rw [List.length_append]
      have := off_le chainN (offV (nameG n) v ++ [(nameG n, graphB g)])
      simp; omega
    · have := congrArg List.length e
      unfold layV at this
      simp at this)
  have HSYN := Lib.hid (show SynOk w ∧ ¬ F (nmLaysC172_ren.g 15) ∧ nmLaysC172_ren.g 15 ≠ x from ⟨hsyn, hsynF, hsynx⟩)
  have HSy := Lib.hid (show ∀ W W0, (∃ F1, Disk W p F1 (layV v n g (L ++ [linkOf n g])) (q + 4) ∧ Grew F F1 W0 W) → Calls Tryz.prog 29 #[.pointer (some ⟨p, 0, none⟩)] W fun e w' => e = .returned (.int .i64 0) ∧ ∃ F', Disk w' p F' (layV v n g (L ++ [linkOf n g])) 0 ∧ Grew F F' W0 w' from fun W W0 ⟨F1, d1, g1⟩ =>
    (dSyncNames p (q + 4) F1 _ W d1 hnem).mono fun e w' ⟨h1, F', h2, h3⟩ => ⟨h1, F', h2, g1.trans h3⟩)
  have c1 : W1.cell? ⟨x, 1, none⟩ = some (.slice xa I.links.length xc) := by
    refine bl_cell hb1 ?_
    rw [cell_of_row _ _ _ _ _ _ hI.box, ← hxl]; rfl
  have hrl : g.rows.length ≤ 12000 := by have := hgood.few; omega
  have hbc := hbox
  have k0 : W1.cell? ⟨w.heap.size, 0, none⟩ = some (.int .i64 (g.base : Nat)) := by rw [cell_of_row _ _ _ _ _ _ hbox]; rfl
  have k1 : W1.cell? ⟨w.heap.size, 1, none⟩ = some (.int .i64 (g.set.H : Nat)) := by rw [cell_of_row _ _ _ _ _ _ hbox]; rfl
  have k2 : W1.cell? ⟨w.heap.size, 2, none⟩ = some (.int .i64 (g.set.P : Nat)) := by rw [cell_of_row _ _ _ _ _ _ hbox]; rfl
  have k3 : W1.cell? ⟨w.heap.size, 3, none⟩ = some (.int .i64 (g.set.M : Nat)) := by rw [cell_of_row _ _ _ _ _ _ hbox]; rfl
  have k4 : W1.cell? ⟨w.heap.size, 4, none⟩ = some (.int .u32 (g.set.S : Nat)) := by rw [cell_of_row _ _ _ _ _ _ hbox]; rfl
  have k5 : W1.cell? ⟨w.heap.size, 5, none⟩ = some (.slice ra g.rows.length rc) := by rw [cell_of_row _ _ _ _ _ _ hbox]; rfl
  have HW1 := Lib.hid hW1
  have HBX := Lib.hid hbox
  have HB1 := Lib.hid hb1
  have K5 := Lib.hid k5
  have HFL := Lib.hid hFl; have HXF := Lib.hid hxF; have HGF := Lib.hid hgaF; have HGC := Lib.hid hG; have HAP := Lib.hid hap; have HPD := Lib.hid hp; have HI := Lib.hid hI; have HLG := Lib.hid hL8
  clear hFl hxF hgaF hG hap hp hvl htext hq hsyn hsynF hsynx
  clear hD hM hnm hnt1 hnt2 nok ng1 ng2 ng3 ng4 hcl cx0 hnv1 hMv1 hlv1 hgl1 hnem hgc
  clear hI hL hE hgood hn hxl hxcells hb1 hW1 hbox hbc htx hl100
  go_enter Tryz.func41, Tryz.ntmps41
  go_wp2_with fail
  rw [HW1.out]
  go_wp2_with fail
  (with_reducible refine HEn.out.mono ?_)
  rintro e w2 ⟨rfl, hb⟩
  have HB2 := Lib.hid hb
  have c1' := bl_cell hb c1
  clear hb c1 k0 k1 k2 k3 k4 k5
  go_wp2_with fail
  (with_reducible refine (HNx.out w2 HB2.out).mono ?_)
  rintro e w3 ⟨rfl, hb⟩
  have HB3 := Lib.hid (bl_trans HB2.out hb)
  clear hb c1'
  go_wp2_with fail
  go_cut [1] from 18 (fun lv wr => ∃ a c, lv = .slice a (L.length + 1) c ∧ OwnX 149 3 linkV wr W1.heap.size lv (L ++ [linkOf n g]) ∧ Below W1.heap.size W1 wr)
  case first =>
    have q5 := bl_cell HB3.out K5.out
    have HSN := Lib.hid (show ∀ W : World, StrsAt (W.alloc (.cells #[.string (textG g)] 9)) (some ⟨W.heap.size, 0, none⟩) [textG g] from fun W => strs_new W 9 [textG g] (fun s hs => by rw [List.mem_singleton.1 hs]; unfold maxLen; omega) #[.string (textG g)] rfl)
    have HSN2 := Lib.hid (show ∀ W : World, StrsAt (W.alloc (.cells #[.string (textG g)] 9)).drew (some ⟨W.heap.size, 0, none⟩) [textG g] from fun W => HSN.out W)
    have HSN3 := Lib.hid (show ∀ W : World, StrsAt (W.drew.alloc (.cells #[.string (textG g)] 9)) (some ⟨W.heap.size, 0, none⟩) [textG g] from fun W => HSN.out W)
    have HVc := Lib.hid True.intro
    have HVs := Lib.hid True.intro
    have HBc := Lib.hid True.intro
    have HBs := Lib.hid True.intro
    have HBp := Lib.hid True.intro
    have HSt := Lib.hid True.intro
    go_region_held3 (fun y => y.cell? ⟨w.heap.size, 5, none⟩ = some (.slice ra g.rows.length rc))
      (first | exact bl_cell HBp.out K5.out | exact bl_cell HBs.out K5.out | exact bl_cell HBc.out K5.out | exact q5 | exact cell_al (w := w3.drew) q5 _ | exact cell_al (bl_cell HBs.out K5.out) _ | exact cell_al (bl_cell HBc.out K5.out) _)
      (first
        | (go_at_call 89; (with_reducible refine (HCl.out _ (by first | exact bl_trans HB3.out (bl_drew (Below.refl _ w3)) | exact bl_trans HB3.out (bl_drew (bl_alloc (Below.refl _ w3) _)) | exact HBs.out)).mono ?_); rintro e wc ⟨vc, rfl, ho, hbc⟩; obtain ⟨ac, cc, rfl, _, _, _, _, _⟩ := OwnX.sl ho; have HBc := Lib.hid (show Below W1.heap.size W1 wc from by first | exact bl_trans (bl_trans HB3.out (bl_drew (Below.refl _ w3))) hbc | exact bl_trans (bl_trans HB3.out (bl_drew (bl_alloc (Below.refl _ w3) _))) hbc | exact bl_trans HBs.out hbc); have HVc := Lib.hid (ho.mono (C := W1.heap.size) (by first | exact (bl_trans HB3.out (bl_drew (Below.refl _ w3))).size | exact (bl_trans HB3.out (bl_drew (bl_alloc (Below.refl _ w3) _))).size | exact HBs.out.size)); (first | (have HSt := Lib.hid (StrsAt.below (HSN2.out w3) hbc (Nat.le_refl _))) | (have HSt := Lib.hid (StrsAt.below (HSN3.out w3) hbc (Nat.le_refl _))) | (have HSt := Lib.hid True.intro)); clear ho)
        | (refine step_append_lies _ rfl (.tmp 31) (.tmp 40) 94 rfl W1.heap.size 149 i0 (.agg #[.int .i64 0, .int .i64 0, .int .u32 0]) 3 24 Tryz.underlying94 hi hz0 hz1 hz2 rfl (by decide) (.slice ac L.length cc) L.length (L.flatMap linkV) rfl (by first | exact HVs.out.below (bl_alloc (Below.refl _ ws) _) | exact HVc.out.below (bl_alloc (Below.refl _ wc) _)) _ 1 1 [.int .i64 (n : Nat), .int .i64 (g.rows.length : Nat), .int .u32 (crc (graphB g) : Nat)] rfl rfl (cells_new _ [.int .i64 (n : Nat), .int .i64 (g.rows.length : Nat), .int .u32 (crc (graphB g) : Nat)] _ rfl) (link_oneX _ _ _) (by decide) (by unfold maxLen; omega) (by omega) (by first | (have := HBs.out.size; simp; omega) | (have := HBc.out.size; simp; omega)) _ rfl ?_; intro gg cp wl hown hg hat hlt; have HVl := Lib.hid (OwnX.push (enc := linkV) (l := L) (m := [linkOf n g]) hown rfl rfl); have HBp := Lib.hid (show Below W1.heap.size W1 wl from by first | exact bel_grown HBs.out HBs.out.size (bl_alloc (Below.refl _ ws) _) hg (fun i hi => (HVs.out.lt i hi).1) | exact bel_grown HBc.out HBc.out.size (bl_alloc (Below.refl _ wc) _) hg (fun i hi => (HVc.out.lt i hi).1)); clear hown hg hat hlt)
        | (go_at_call 90; (with_reducible refine (HSm.out _ _ (by first | exact HSt.out | exact HSN.out w3 | exact HSN.out wc | exact HSN2.out w3 | exact HSN3.out w3)).mono ?_); rintro e ws ⟨rfl, hbs⟩; have HBs := Lib.hid (show Below W1.heap.size W1 ws from by first | exact bl_trans HBc.out hbs | exact bl_trans (bl_alloc HBc.out _) hbs | exact bl_trans (bl_trans HB3.out (bl_drew (bl_alloc (Below.refl _ w3) _))) hbs | exact bl_trans (bl_alloc (bl_trans HB3.out (bl_drew (Below.refl _ w3))) _) hbs); (first | (have HVs := Lib.hid (HVc.out.below (bl_trans (bl_alloc (Below.refl _ wc) _) hbs))) | (have HVs := Lib.hid (HVc.out.below hbs)) | (have HVs := Lib.hid True.intro))))
    all_goals
      go_wp2
      go_meet
      case rel => exact ⟨_, _, rfl, HVl.out, HBp.out⟩
  case rest =>
    obtain ⟨a1, c1, rfl, ho, hb⟩ := hcut
    have HL1 := Lib.hid ho; have HBw := Lib.hid hb
    have HB05 := Lib.hid (bl_trans HB1.out hb)
    clear ho hb
    go_wp2_with fail
    (with_reducible refine (HEc.out _ a1 c1 HL1.out).mono ?_)
    rintro e w6 ⟨rfl, hb⟩
    have HB6 := Lib.hid (bl_trans HB05.out hb); have HB56 := Lib.hid hb
    clear hb
    go_wp2_with fail
    (with_reducible refine (HNm.out _).mono ?_)
    rintro e w7 ⟨rfl, rfl⟩
    go_wp2_with fail
    (with_reducible refine (HWr1.out _ HB6.out).mono ?_)
    rintro e w8 ⟨rfl, hh⟩
    have HD8 := Lib.hid hh
    clear hh
    go_wp2_with fail
    (with_reducible refine (HWr2.out w8 w7 HB6.out HD8.out).mono ?_)
    rintro e w9 ⟨rfl, hh⟩
    have HD9 := Lib.hid hh
    have a0 := HX0.out w9 w7 HB6.out hh
    clear hh
    go_wp2_with fail
    (with_reducible refine (HSy.out w9 w7 HD9.out).mono ?_)
    rintro e w10 ⟨rfl, hh⟩
    have HD10 := Lib.hid hh
    clear hh a0
    go_wp2_with fail
    have hst : ∀ b, ¬ F b → b < w7.heap.size → w10.heap[b]? = w7.heap[b]? := fun b hb hl => by
      obtain ⟨F1, _, g1⟩ := HD10.out
      exact g1.upd.block b hl hb
    have hz10 : w7.heap.size ≤ w10.heap.size := by obtain ⟨F1, _, g1⟩ := HD10.out; exact g1.upd.size
    have hxl := (Array.getElem?_eq_some_iff.1 HI.out.box).1
    have hx7 : w7.heap[x]? = some (.cells #[.pointer (some ⟨p, 0, none⟩), I.lv, I.gv] 97 (0, 0)) := by rw [HB6.out.block x hxl, HI.out.box, HPD.out]
    have hx10 : w10.heap[x]? = some (.cells #[.pointer (some ⟨p, 0, none⟩), I.lv, I.gv] 97 (0, 0)) := (hst x HXF.out (Nat.lt_of_lt_of_le hxl HB6.out.size)).trans hx7
    have HN0 := Lib.hid (show Near w10 x (.pointer (some ⟨p, 0, none⟩)) I.gv w10 from ⟨Upd.refl _ _, I.lv, hx10⟩)
    have hz1 : W1.heap.size = w.heap.size + 1 := by rw [← HW1.out]; simp
    have hb17 : Below W1.heap.size W1 w7 := bl_trans HBw.out HB56.out
    have hg7 := (hb17.block w.heap.size (by omega)).trans HBX.out
    have hg10 := (hst w.heap.size (fun e => Nat.lt_irrefl _ (HFL.out _ e)) (by have := hb17.size; omega)).trans hg7
    have HG10 := Lib.hid hg10
    have hnx : w.heap.size ≠ x := by omega
    have HCG := Lib.hid (show ∀ W, Near w10 x (.pointer (some ⟨p, 0, none⟩)) I.gv W → Calls Tryz.prog 95 #[.slice ga G.length gc] W fun e w' => ∃ v', e = .returned v' ∧ OwnX 103 6 graphC w' w10.heap.size v' G ∧ Below W.heap.size W w' from fun W hW => by
      refine (kCloneGraph G ga gc (by omega) W (HGC.out.stays (fun b off e _ => ?_) (Nat.le_trans HB6.out.size (Nat.le_trans hz10 hW.size)))).mono fun e w' ⟨v', h1, h2, h3⟩ => ⟨v', h1, h2.mono hW.size, h3⟩
      obtain ⟨n1, n2, n3⟩ := HGF.out b off e
      have n4 := Nat.lt_of_lt_of_le n2 HB6.out.size
      exact (hW.stay b (Nat.lt_of_lt_of_le n4 hz10) n3).trans ((hst b n1 n4).trans (HB6.out.block b n2)))
    have HST := Lib.hid hst
    have HZ10 := Lib.hid hz10
    obtain ⟨j0, hj, hj0, hj1, hj2⟩ := info_parts infoGraphC
    have hxw : x < w10.heap.size := (Array.getElem?_eq_some_iff.1 hx10).1
    clear hst hx7 hx10 hb17 hg7 hg10 hz1 hxl
    go_cut [1] from 18 (fun lv wr => lv = .slice a1 (L.length + 1) c1 ∧ ∃ gg gcap, wr.heap[x]? = some (.cells #[.pointer (some ⟨p, 0, none⟩), .slice a1 (L.length + 1) c1, .slice (some ⟨gg, 0, none⟩) (G.length + 1) gcap] 97 (0, 0)) ∧
      OwnX 103 6 graphC wr w10.heap.size (.slice (some ⟨gg, 0, none⟩) (G.length + 1) gcap) (G ++ [⟨ra, g.rows.length, rc, g⟩]) ∧ Upd (fun k => k = x) w10 wr)
    case first =>
      obtain ⟨y1, t1, t2, z1, z2⟩ := HN0.out.cells
      have k0 : w10.cell? ⟨w.heap.size, 0, none⟩ = some (.int .i64 (g.base : Nat)) := by rw [cell_of_row _ _ _ _ _ _ HG10.out]; rfl
      have k1 : w10.cell? ⟨w.heap.size, 1, none⟩ = some (.int .i64 (g.set.H : Nat)) := by rw [cell_of_row _ _ _ _ _ _ HG10.out]; rfl
      have k2 : w10.cell? ⟨w.heap.size, 2, none⟩ = some (.int .i64 (g.set.P : Nat)) := by rw [cell_of_row _ _ _ _ _ _ HG10.out]; rfl
      have k3 : w10.cell? ⟨w.heap.size, 3, none⟩ = some (.int .i64 (g.set.M : Nat)) := by rw [cell_of_row _ _ _ _ _ _ HG10.out]; rfl
      have k4 : w10.cell? ⟨w.heap.size, 4, none⟩ = some (.int .u32 (g.set.S : Nat)) := by rw [cell_of_row _ _ _ _ _ _ HG10.out]; rfl
      have k5 : w10.cell? ⟨w.heap.size, 5, none⟩ = some (.slice ra g.rows.length rc) := by rw [cell_of_row _ _ _ _ _ _ HG10.out]; rfl
      have HSL := Lib.hid True.intro
      go_region_law (first
        | (go_simp; go_at_call 95; (with_reducible refine (HCG.out _ ?hn).mono ?_); (case hn => repeat (first | exact HN0.out | refine Near.drew ?_ | refine Near.alloc ?_ _ | refine Near.set ?_ _)); rintro e wg ⟨vg, rfl, ho, hb⟩; obtain ⟨ag, cg, rfl, _, _, _, _, _⟩ := OwnX.sl ho; have HVg := Lib.hid ho; have hng : Near w10 x (.pointer (some ⟨p, 0, none⟩)) I.gv wg := Near.below (by repeat (first | exact HN0.out | refine Near.drew ?_ | refine Near.alloc ?_ _ | refine Near.set ?_ _)) hb; have HNg := Lib.hid hng; obtain ⟨yg, tg1, tg2, zg1, zg2⟩ := hng.cells; have m0 := hng.cell k0 hnx; have m1 := hng.cell k1 hnx; have m2 := hng.cell k2 hnx; have m3 := hng.cell k3 hnx; have m4 := hng.cell k4 hnx; have m5 := hng.cell k5 hnx; (first | (have HSL := Lib.hid (cells_keep (xs := [.int .i64 (g.base : Nat), .int .i64 (g.set.H : Nat), .int .i64 (g.set.P : Nat), .int .i64 (g.set.M : Nat), .int .u32 (g.set.S : Nat), .slice ra g.rows.length rc]) hb)) | (have HSL := Lib.hid (cells_keep2 (xs := [.int .i64 (g.base : Nat), .int .i64 (g.set.H : Nat), .int .i64 (g.set.P : Nat), .int .i64 (g.set.M : Nat), .int .u32 (g.set.S : Nat), .slice ra g.rows.length rc]) hb)) | (have HSL := Lib.hid True.intro)); clear ho hb hng)
        | (refine step_append_lies _ rfl (.tmp 91) (.tmp 93) 95 rfl w10.heap.size 103 j0 (.agg #[.int .i64 0, .int .i64 0, .int .i64 0, .int .i64 0, .int .u32 0, .slice none 0 0]) 6 64 Tryz.underlying95 hj hj0 hj1 hj2 rfl (by decide) (.slice ag G.length cg) G.length (G.flatMap graphC) rfl (HVg.out.below (bl_alloc (Below.refl _ wg) _)) _ 1 1 [.int .i64 (g.base : Nat), .int .i64 (g.set.H : Nat), .int .i64 (g.set.P : Nat), .int .i64 (g.set.M : Nat), .int .u32 (g.set.S : Nat), .slice ra g.rows.length rc] rfl rfl (cells_new wg [.int .i64 (g.base : Nat), .int .i64 (g.set.H : Nat), .int .i64 (g.set.P : Nat), .int .i64 (g.set.M : Nat), .int .u32 (g.set.S : Nat), .slice ra g.rows.length rc] _ rfl) (one_gr ⟨ra, g.rows.length, rc, g⟩) (by decide) (by unfold maxLen; omega) (by omega) (Nat.le_trans HNg.out.size (by simp)) _ rfl ?_; intro gg cp w11 hown hg hat hlt; have HVz := Lib.hid (OwnX.push (enc := graphC) (l := G) (m := [⟨ra, g.rows.length, rc, g⟩]) hown rfl rfl); have hn11 : Near w10 x (.pointer (some ⟨p, 0, none⟩)) I.gv w11 := Near.grown (HNg.out.alloc _) hg (fun g' e => (HVg.out.lt g' e).1) hxw; have HN11 := Lib.hid hn11; obtain ⟨y11, ta1, ta2, za1, za2⟩ := hn11.cells; clear hown hg hat hlt hn11)
        | (refine step_append_lies _ rfl (.tmp 91) (.tmp 93) 95 rfl w10.heap.size 103 j0 (.agg #[.int .i64 0, .int .i64 0, .int .i64 0, .int .i64 0, .int .u32 0, .slice none 0 0]) 6 64 Tryz.underlying95 hj hj0 hj1 hj2 rfl (by decide) (.slice ag G.length cg) G.length (G.flatMap graphC) rfl HVg.out _ 1 1 [.int .i64 (g.base : Nat), .int .i64 (g.set.H : Nat), .int .i64 (g.set.P : Nat), .int .i64 (g.set.M : Nat), .int .u32 (g.set.S : Nat), .slice ra g.rows.length rc] rfl rfl HSL.out (one_gr ⟨ra, g.rows.length, rc, g⟩) (by decide) (by unfold maxLen; omega) (by omega) HNg.out.size _ rfl ?_; intro gg cp w11 hown hg hat hlt; have HVz := Lib.hid (OwnX.push (enc := graphC) (l := G) (m := [⟨ra, g.rows.length, rc, g⟩]) hown rfl rfl); have hn11 : Near w10 x (.pointer (some ⟨p, 0, none⟩)) I.gv w11 := Near.grown HNg.out hg (fun g' e => (HVg.out.lt g' e).1) hxw; have HN11 := Lib.hid hn11; obtain ⟨y11, ta1, ta2, za1, za2⟩ := hn11.cells; clear hown hg hat hlt hn11))
      all_goals
        have HF := Lib.hid (HN11.out.done (a := .slice a1 (L.length + 1) c1) hxw HVz.out)
        go_wp2
        go_meet
        case rel => exact ⟨rfl, _, _, HF.out.1, HF.out.2.1, HF.out.2.2⟩
    case rest =>
      obtain ⟨rfl, gg, gcap, hxc, hgo, hup⟩ := hcut
      have hoth : ∀ k, k < w10.heap.size → k ≠ x → wc.heap[k]? = w10.heap[k]? := fun k hk hn => hup.block k hk hn
      have hszc := hup.size
      have HUP := Lib.hid hup
      obtain ⟨F1, hd1, g1⟩ := HD10.out
      have hF1 : ∀ k, F1 k → F k ∨ w7.heap.size ≤ k := g1.sub
      have HF10 := Lib.hid hd1.lt
      have hxw7 : x < w7.heap.size := Nat.lt_of_lt_of_le (Array.getElem?_eq_some_iff.1 HI.out.box).1 HB6.out.size
      have hxF1 : ¬ F1 x := fun e => by
        rcases hF1 x e with h | h
        · exact HXF.out h
        · omega
      have hdc : Disk wc p F1 (layV v n g (L ++ [linkOf n g])) 0 := hd1.stays ⟨fun k hk => hoth k (hd1.lt k hk) (fun e => hxF1 (e ▸ hk)), hszc⟩
      have HDn := Lib.hid (dNames p 0 F1 _ wc hdc HVL.out.2 (by have := HVL.out.1; omega))
      have c0 : wc.cell? ⟨x, 0, none⟩ = some (.pointer (some ⟨p, 0, none⟩)) := by rw [cell_of_row _ _ _ _ _ _ hxc]; rfl
      have HXC := Lib.hid hxc; have HGO := Lib.hid hgo; have HOT := Lib.hid hoth; have HSZ := Lib.hid hszc; have HF1 := Lib.hid hF1; have HX1 := Lib.hid hxF1; have HDC := Lib.hid hdc; have HG1 := Lib.hid g1
      clear hxc hgo hoth hszc hup hF1 hxF1 hdc hd1 g1
      go_wp2_with fail
      (with_reducible refine HDn.out.mono ?_)
      rintro e wd ⟨val, ns, rfl, hperm, hown, hbd⟩
      have hok : ∀ s ∈ ns, NameOk s := fun s hs => by
        obtain ⟨y, hy, rfl⟩ := List.mem_map.1 (hperm.mem_iff.1 hs)
        exact HNM.out y hy
      obtain ⟨na, nc, rfl, _⟩ := hown.sl (fun s hs => by have := (hok s hs).small; unfold maxLen; omega)
      have HOK := Lib.hid hok; have HPM := Lib.hid hperm; have HON := Lib.hid hown; have HBD := Lib.hid hbd
      have hnl : ns.length ≤ 14 := by have := hperm.length_eq; have := HVL.out.1; simp at *; omega
      clear hok hperm hown hbd
      go_wp2
      have HFLd := Lib.hid (show ∀ k, F1 k → k < wc.heap.size from HDC.out.lt)
      have hw7c : w7.heap.size ≤ wc.heap.size := Nat.le_trans HZ10.out HSZ.out
      have HOLD := Lib.hid (show ∀ b, b < w7.heap.size → ¬ F b → b ≠ x → ∀ W Fk, Grew F1 Fk wd W → W.heap[b]? = w7.heap[b]? from fun b hb hF hx W Fk hg => by
        have n1 : ¬ F1 b := fun e => by
          rcases HF1.out b e with h | h
          · exact hF h
          · omega
        have z1 : b < wc.heap.size := Nat.lt_of_lt_of_le hb hw7c
        rw [hg.upd.block b (Nat.lt_of_lt_of_le z1 HBD.out.size) n1, HBD.out.block b z1, HOT.out b (Nat.lt_of_lt_of_le hb HZ10.out) hx]
        exact HST.out b hF hb)
      have hxwl := (Array.getElem?_eq_some_iff.1 HI.out.box).1
      have hW1s : w.heap.size ≤ W1.heap.size := HB1.out.size
      have HLK := Lib.hid (show ∀ W Fk, Grew F1 Fk wd W → OwnX 149 3 linkV W W1.heap.size (.slice a1 (L.length + 1) c1) (L ++ [linkOf n g]) from fun W Fk hg => HL1.out.stays fun b e => by
        obtain ⟨b1, b2⟩ := HL1.out.lt b e
        have b3 := Nat.lt_of_lt_of_le b2 HB56.out.size
        rw [HOLD.out b b3 (fun h => by have := HFL.out b h; omega) (by omega) W Fk hg]
        exact HB56.out.block b b2)
      have HSK := Lib.hid (show ∀ W Fk, Grew F1 Fk wd W → SynOk W from fun W Fk hg => by
        obtain ⟨s1, s2, s3⟩ := HSYN.out
        exact s1.stays ((HOLD.out _ (Nat.lt_of_lt_of_le s1.lt HB6.out.size) s2 s3 W Fk hg).trans (HB6.out.block _ s1.lt)))
      have HXK := Lib.hid (show ∀ W Fk, Grew F1 Fk wd W → W.heap[x]? = some (.cells #[.pointer (some ⟨p, 0, none⟩), .slice a1 (L.length + 1) c1, .slice (some ⟨gg, 0, none⟩) (G.length + 1) gcap] 97 (0, 0)) from fun W Fk hg => by
        have z1 := Nat.lt_of_lt_of_le (Nat.lt_of_lt_of_le hxwl HB6.out.size) hw7c
        rw [hg.upd.block x (Nat.lt_of_lt_of_le z1 HBD.out.size) HX1.out, HBD.out.block x z1]
        exact HXC.out)
      have HNK := Lib.hid (show ∀ W Fk, Grew F1 Fk wd W → StrsAt W na ns from fun W Fk hg => by
        have ho : OwnS W wc.heap.size (.slice na ns.length nc) ns := row_stays HON.out fun b e => by
          obtain ⟨b1, b2⟩ := HON.out.lt b e
          exact hg.upd.block b b2 (fun h => by have := HFLd.out b h; omega)
        obtain ⟨na', nc', e, h⟩ := ho.sl (fun s hs => by have := (HOK.out s hs).small; unfold maxLen; omega)
        obtain ⟨rfl, _, _⟩ := Value.slice.inj e
        exact h)
      have HND := Lib.hid (show ns.Nodup from HPM.out.nodup_iff.2 HDC.out.nodup)
      go_loopw [105] (fun iv wr => ∃ k : Nat, k ≤ ns.length ∧ iv = .int .i64 k ∧ ∃ Fk qk, Disk wr p Fk (leftV (L ++ [linkOf n g]) (ns.take k) (layV v n g (L ++ [linkOf n g]))) qk ∧ qk ≤ k ∧ Grew F1 Fk wd wr) (fun iv _ => ns.length - (intOf iv).toNat)
      case atStart =>
        refine ⟨0, Nat.zero_le _, rfl, F1, 0, ?_, Nat.le_refl _, ?_⟩
        · rw [List.take_zero, left_nil]; exact HDC.out.below HBD.out
        · exact Grew.refl fun k hk => Nat.lt_of_lt_of_le (HFLd.out k hk) HBD.out.size
      case round =>
        obtain ⟨k, hk, rfl, Fk, qk, hdk, hqk, hgk⟩ := hrel
        obtain ⟨wq, hwq⟩ : ∃ wq : World, wq = wr := ⟨_, rfl⟩
        subst hwq
        have HDK := Lib.hid hdk; have HGK := Lib.hid hgk
        clear hdk hgk
        by_cases hlt : k < ns.length
        · obtain ⟨s, hs⟩ : ∃ s, ns[k] = s := ⟨_, rfl⟩
          have hmem : s ∈ ns := hs ▸ List.getElem_mem hlt
          have HNUM := Lib.hid (xNumber (L ++ [linkOf n g]) s (HOK.out s hmem) wq (HSK.out wq Fk HGK.out))
          obtain ⟨_, nb, noff, hna, hcell⟩ := HNK.out wq Fk HGK.out k hlt
          subst hna
          rw [hs] at hcell
          have HCE := Lib.hid hcell
          go_wp2_with fail
          (with_reducible refine HNUM.out.mono ?_)
          rintro e w1 ⟨num, ok, rfl, hb, hkeep⟩
          have HB1q := Lib.hid hb; have HKP := Lib.hid hkeep
          clear hb hkeep hcell
          have HHS := Lib.hid (show ∀ W b, Below w1.heap.size w1 W → W.cell? ⟨b, 0, none⟩ = some (.int .i64 (num : Nat)) → Calls Tryz.prog 97 #[.slice a1 (L.length + 1) c1, .func (.func 98) #[] #[.pointer (some ⟨b, 0, none⟩)]] W fun e w' => e = .returned (.bool ((L ++ [linkOf n g]).any fun y => decide (y.1 = num))) ∧ Below W.heap.size W w' from fun W b hW hc => by
            obtain ⟨a', c', e1, e2, _, _, _, _⟩ := ((HLK.out wq Fk HGK.out).below (bl_trans HB1q.out hW)).sl
            obtain ⟨rfl, _, rfl⟩ := Value.slice.inj e1
            have := xHas (L ++ [linkOf n g]) a1 c1 (by have := HLG.out; simp; omega) num b W e2 hc
            rw [List.length_append] at this
            exact this)
          have htk : ns.take (k + 1) = ns.take k ++ [s] := by rw [List.take_succ_eq_append_getElem hlt, hs]
          have hst : s ∉ ns.take k := fun hm => by
            have h1 := HND.out
            rw [← List.take_append_drop (k + 1) ns, htk] at h1
            have h2 := (List.nodup_append.1 h1).1
            exact (List.nodup_append.1 h2).2.2 s hm s (List.mem_singleton.2 rfl) rfl
          have HKEEP := Lib.hid (show ∀ W, Below wq.heap.size wq W → keepN (L ++ [linkOf n g]) s = true → Disk W p Fk (leftV (L ++ [linkOf n g]) (ns.take (k + 1)) (layV v n g (L ++ [linkOf n g]))) qk ∧ Grew F1 Fk wd W from fun W hW hk => by
            rw [htk, left_keep hk]
            exact ⟨HDK.out.below hW, HGK.out.thenB hW⟩)
          have HREM := Lib.hid (show ∀ W, Below wq.heap.size wq W → keepN (L ++ [linkOf n g]) s = false → Calls Tryz.prog 94 #[.pointer (some ⟨p, 0, none⟩), .string s] W fun e w' => e = .returned (.int .i64 0) ∧ ∃ F', Disk w' p F' (leftV (L ++ [linkOf n g]) (ns.take (k + 1)) (layV v n g (L ++ [linkOf n g]))) (qk + 1) ∧ Grew F1 F' wd w' from fun W hW hk => by
            have hmv : s ∈ (layV v n g (L ++ [linkOf n g])).map Prod.fst := HPM.out.mem_iff.1 hmem
            have hlen := left_len (L ++ [linkOf n g]) (ns.take k) (layV v n g (L ++ [linkOf n g]))
            have hv14 := HVL.out.1
            rw [htk, left_off hk]
            exact (dRemove p qk Fk _ s W (HDK.out.below hW) (HOK.out s hmem).small.1 (left_mem hmv hst) (by omega) (by omega)).mono fun e w' ⟨h1, F', h2, h3⟩ => ⟨h1, F', h2, (HGK.out.thenB hW).trans h3⟩)
          have HX3 := Lib.hid (show ∀ W, Below wq.heap.size wq W → W.cell? ⟨x, 0, none⟩ = some (.pointer (some ⟨p, 0, none⟩)) from fun W hW => by
            refine bl_cell hW ?_
            rw [cell_of_row _ _ _ _ _ _ (HXK.out wq Fk HGK.out)]; rfl)
          have HMS := Lib.hid (show ns.length - (intOf (Value.int IntKind.i64 ((k : Int) + 1))).toNat < ns.length - (intOf (Value.int IntKind.i64 (k : Nat))).toNat from by
            show ns.length - ((k : Int) + 1).toNat < ns.length - ((k : Nat) : Int).toNat
            omega)
          have HCN := Lib.hid (show ∀ W : World, (W.alloc (.cells #[.int .i64 (num : Nat)] 3)).cell? ⟨W.heap.size, 0, none⟩ = some (.int .i64 (num : Nat)) from fun W => by rw [cell_of_row _ _ _ _ _ _ (heap_alloc_new _ _)]; rfl)
          clear htk hst
          cases ok
          · go_wp2
            have HF := Lib.hid (HKEEP.out (w1.alloc (.cells #[.int .i64 (num : Nat)] 3)) (bl_alloc HB1q.out _) (by rw [HKP.out]; rfl))
            go_roundw
            case rel => exact ⟨k + 1, hlt, by go_num, Fk, qk, HF.out.1, Nat.le_succ_of_le hqk, HF.out.2⟩
            case measure => exact HMS.out
          · go_wp2_with fail
            (with_reducible refine (HHS.out _ _ (bl_alloc (Below.refl _ w1) _) (HCN.out w1)).mono ?_)
            rintro e w3 ⟨rfl, hb3⟩
            have HB3q := Lib.hid (bl_trans (bl_alloc HB1q.out _) hb3)
            obtain ⟨b2, hb2⟩ : ∃ b2, ((L ++ [linkOf n g]).any fun y => decide (y.1 = num)) = b2 := ⟨_, rfl⟩
            have hk2 := HKP.out
            rw [hb2] at hk2 ⊢
            have HK2 := Lib.hid hk2
            have c3 := HX3.out w3 HB3q.out
            clear hb3 hb2 hk2
            cases b2
            · have hkf : keepN (L ++ [linkOf n g]) s = false := by rw [HK2.out]; rfl
              go_wp2_with fail
              (with_reducible refine (HREM.out _ HB3q.out hkf).mono ?_)
              rintro e w4 ⟨rfl, F4, hd4, hg4⟩
              have HD4 := Lib.hid hd4; have HG4 := Lib.hid hg4
              clear hd4 hg4
              go_wp2
              go_roundw
              case rel => exact ⟨k + 1, hlt, by go_num, F4, qk + 1, HD4.out, Nat.succ_le_succ hqk, HG4.out⟩
              case measure => exact HMS.out
            · go_wp2
              have HF := Lib.hid (HKEEP.out w3 HB3q.out (by rw [HK2.out]; rfl))
              go_roundw
              case rel => exact ⟨k + 1, hlt, by go_num, Fk, qk, HF.out.1, Nat.le_succ_of_le hqk, HF.out.2⟩
              case measure => exact HMS.out
        · have hke : k = ns.length := by omega
          subst hke
          go_wp2
          go_ret
          have hlk := HLK.out wq Fk HGK.out
          have hz7 := HB6.out.size
          have hsub : ∀ j, Fk j → F j ∨ w7.heap.size ≤ j := fun j hj => by
            rcases HGK.out.sub j hj with h | h
            · exact HF1.out j h
            · exact .inr (by have := HBD.out.size; omega)
          have hlb : ∀ j, (Value.slice a1 (L.length + 1) c1).ownBlock = some j → w.heap.size ≤ j ∧ j < w7.heap.size := fun j hj => by
            obtain ⟨b1, b2⟩ := HL1.out.lt j hj
            exact ⟨by omega, Nat.lt_of_lt_of_le b2 HB56.out.size⟩
          obtain ⟨gl1, gl2⟩ := HGO.out.lt gg rfl
          have hgF : ¬ F1 gg := fun h => by have := HF10.out gg h; omega
          have hzd := HBD.out.size
          have hz10 := HZ10.out
          have hfl := HFL.out
          refine ⟨rfl, ⟨⟨Fk, qk, a1, c1, gg, gcap, ?_, by omega, ?_, ?_, ?_, ?_, ?_, ?_⟩, ?_⟩⟩
          · have h1 := HDK.out
            rw [List.take_length, left_all (fun y hy => HPM.out.mem_iff.2 (List.mem_map.2 ⟨y, hy, rfl⟩))] at h1
            exact h1
          · rw [List.length_append, List.length_append]; exact HXK.out wq Fk HGK.out
          · rw [List.length_append]; exact hlk.mono hW1s
          · rw [List.length_append]
            refine (HGO.out.stays fun j e => ?_).mono (by omega)
            obtain rfl : gg = j := Option.some.inj e
            rw [HGK.out.upd.block gg (by omega) hgF]
            exact HBD.out.block gg gl2
          · intro j hj
            rcases hsub j hj with h | h
            · exact .inl h
            · exact .inr (by omega)
          · intro j hj hF
            rcases hj with hj | rfl
            · rw [List.length_append] at hj
              obtain ⟨b1, b2⟩ := hlb j (Option.mem_toList.1 hj)
              rcases hsub j hF with h | h
              · have := hfl j h; omega
              · omega
            · rcases HGK.out.sub j hF with h | h
              · exact hgF h
              · omega
          · intro j hj
            rw [List.length_append] at hj
            obtain ⟨b1, b2⟩ := hlb j (Option.mem_toList.1 hj)
            omega
          · have u3 : Upd (fun k => F k ∨ k = x) w wc := ((Upd.of HB6.out).trans HG1.out.upd fun i h => .inl (.inl h)).trans HUP.out fun i h => .inl (.inr h)
            exact (u3.thenB HBD.out).trans HGK.out.upd fun i h => by
              rcases HF1.out i h with e | e
              · exact .inl (.inl e)
              · exact .inr (by omega)
end Go.Proofs.YtbhfbdcmamodcaaGreatDoor
namespace Go.Proofs.YtbhfbdcmamodcaaGreatDoor
open Go.RowKit Go.Maps TrMath FrMath PackMath SumMath
set_option maxHeartbeats 4000000 in
set_option maxRecDepth 100000 in
theorem xReady {w : World} {s x : Nat} {S : StoreS} {I : IndexS} {R : Foot} (h : StoreAt w s S) (hI : IndexAt w x I R) (Q : SetP) (hQ : chkR Q.H Q.P Q.M = 0) (hl : I.links.length ≤ 1000) (hN : S.commits.length ≤ 1000000) (ht : totalL I.links ≤ S.commits.length) :
    Calls Tryz.prog 40 #[.pointer (some ⟨x, 0, none⟩), srcV s, .agg #[.int .i64 (Q.H : Nat), .int .i64 (Q.P : Nat), .int .i64 (Q.M : Nat), .int .u32 (Q.S : Nat)]] w fun e w' => e = .returned (.int .i64 0) ∧ Below w.heap.size w w' := by
  obtain ⟨W1, hW1⟩ : ∃ W1, w.alloc (.cells #[.int .i64 (Q.H : Nat), .int .i64 (Q.P : Nat), .int .i64 (Q.M : Nat), .int .u32 (Q.S : Nat)] 49) = W1 := ⟨_, rfl⟩
  have hb1 : Below w.heap.size w W1 := by rw [← hW1]; exact bl_alloc (Below.refl _ w) _
  have hs1 : W1.heap[w.heap.size]? = some (.cells #[.int .i64 (Q.H : Nat), .int .i64 (Q.P : Nat), .int .i64 (Q.M : Nat), .int .u32 (Q.S : Nat)] 49 (0, 0)) := by rw [← hW1]; exact heap_alloc_new _ _
  have k0 : W1.cell? ⟨w.heap.size, 0, none⟩ = some (.int .i64 (Q.H : Nat)) := by rw [cell_of_row _ _ _ _ _ _ hs1]; rfl
  have k1 : W1.cell? ⟨w.heap.size, 1, none⟩ = some (.int .i64 (Q.P : Nat)) := by rw [cell_of_row _ _ _ _ _ _ hs1]; rfl
  have k2 : W1.cell? ⟨w.heap.size, 2, none⟩ = some (.int .i64 (Q.M : Nat)) := by rw [cell_of_row _ _ _ _ _ _ hs1]; rfl
  have k3 : W1.cell? ⟨w.heap.size, 3, none⟩ = some (.int .u32 (Q.S : Nat)) := by rw [cell_of_row _ _ _ _ _ _ hs1]; rfl
  have HCk := Lib.hid (show Calls Tryz.prog 86 #[.agg #[.int .i64 (Q.H : Nat), .int .i64 (Q.P : Nat), .int .i64 (Q.M : Nat), .int .u32 (Q.S : Nat)]] W1 fun e w' => e = .returned (.int .i64 0) ∧ Below W1.heap.size W1 w' from by
    have := blCheck (Q.H : Nat) (Q.P : Nat) (Q.M : Nat) (Q.S : Nat) W1
    rwa [hQ] at this)
  have HCs := Lib.hid (fun W (hW : Below W1.heap.size W1 W) => sCommits ((h.below hb1).below hW))
  have HLn := Lib.hid (fun W (hW : Below w.heap.size w W) => xLen (hI.below hW) hl (by omega))
  have hd : decide ((S.commits.length : Int) < (totalL I.links : Int)) = false := by rw [decide_eq_false_iff_not]; omega
  have hm1 := mCommits
  have HW1 := Lib.hid hW1; have HB1 := Lib.hid hb1
  clear h hI hW1 hb1 hs1 hQ
  unfold srcV
  go_enter Tryz.func40, Tryz.ntmps40
  go_wp2_with fail
  rw [HW1.out]
  go_wp2_with fail
  (with_reducible refine HCk.out.mono ?_)
  rintro e w2 ⟨rfl, hb⟩
  have HB2 := Lib.hid (bl_trans HB1.out hb); have HB12 := Lib.hid hb
  clear hb
  go_wp2_with fail
  (with_reducible refine (HCs.out _ HB12.out).mono ?_)
  rintro e w3 ⟨rfl, rfl⟩
  go_wp2_with fail
  (with_reducible refine (HLn.out _ HB2.out).mono ?_)
  rintro e w4 ⟨rfl, hb⟩
  have HB4 := Lib.hid (bl_trans HB2.out hb)
  clear hb
  go_wp2
  go_ret
  exact ⟨rfl, HB4.out⟩
end Go.Proofs.YtbhfbdcmamodcaaGreatDoor
namespace Go.Proofs.YtbhfbdcmamodcaaGreatDoor
open Go.RowKit Go.Maps TrMath FrMath PackMath SumMath
structure UpTo (w w' : World) (x p : Nat) (F R : Foot) (V : View) (L : List Link) (gs : List GraphP) : Prop where
  out : ∃ F' I' R' q', Disk w' p F' V q' ∧ q' ≤ 20 ∧ IndexAt w' x I' R' ∧ I'.disk = p ∧ I'.links = L ∧ I'.graphs.map GrE.g = gs ∧ Apart F' (I'.foot x R') ∧ (∀ k, F' k → F k ∨ w.heap.size ≤ k) ∧ (∀ k, R' k → R k ∨ w.heap.size ≤ k) ∧ ∀ k ∈ I'.own x, k = x ∨ w.heap.size ≤ k
  upd : Upd (fun k => F k ∨ k = x) w w'
theorem Laid7.upTo {w w5 w' : World} {x p : Nat} {F R Rn : Foot} {V : View} {L : List Link} {G : List GrE} (h : Laid7 w5 w' x p F V L G) (hb : Below w.heap.size w w5) (hx : x < w.heap.size) (hF : ∀ k, F k → k < w.heap.size) (hxF : ¬ F x)
    (hG : ∀ e ∈ G, GrOk (R.or Rn) w5 e) (hR : ∀ k, R k → k < w.heap.size ∧ ¬ F k ∧ k ≠ x) (hRn : ∀ k, Rn k → w.heap.size ≤ k ∧ k < w5.heap.size) : UpTo w w' x p F R V L (G.map GrE.g) := by
  obtain ⟨F', q', a, c, gg, gc, hd, hq, hbox, hl, hg, hsub, hoff, hne⟩ := h.out
  have hz := hb.size
  have hz5 := h.upd.size
  have hR5 : ∀ k, (R.or Rn) k → k < w5.heap.size ∧ ¬ F k ∧ k ≠ x := fun k hk => by
    rcases hk with hk | hk
    · obtain ⟨h1, h2, h3⟩ := hR k hk
      exact ⟨by omega, h2, h3⟩
    · obtain ⟨h1, h2⟩ := hRn k hk
      exact ⟨h2, fun e => by have := hF k e; omega, by omega⟩
  have hst : Stays (R.or Rn) w5 w' := ⟨fun k hk => h.upd.block k (hR5 k hk).1 fun e => by
    rcases e with e | e
    · exact (hR5 k hk).2.1 e
    · exact (hR5 k hk).2.2 e, hz5⟩
  obtain ⟨gl1, gl2⟩ := hg.lt gg rfl
  have hlb : ∀ j, j ∈ (Value.slice a L.length c).ownBlock.toList → w5.heap.size ≤ j ∧ j < w'.heap.size := fun j hj => hl.lt j (Option.mem_toList.1 hj)
  have hown : ∀ k, k ∈ (⟨p, .slice a L.length c, .slice (some ⟨gg, 0, none⟩) G.length gc, L, G⟩ : IndexS).own x ↔ k = x ∨ k ∈ (Value.slice a L.length c).ownBlock.toList ∨ k = gg := fun k => by
    unfold IndexS.own
    rw [List.mem_cons, List.mem_append]
    have : k ∈ (Value.slice (some ⟨gg, 0, none⟩) G.length gc).ownBlock.toList ↔ k = gg := by simp [Value.ownBlock]
    rw [this]
  refine ⟨⟨F', ⟨p, .slice a L.length c, .slice (some ⟨gg, 0, none⟩) G.length gc, L, G⟩, R.or Rn, q', hd, hq, ⟨hbox, hl.mono (Nat.zero_le _), hg.mono (Nat.zero_le _), fun e he => (hG e he).stays hst, fun k hk => by have := (hR5 k hk).1; omega, ?_, ?_⟩, rfl, rfl, rfl, ?_, ?_, ?_, ?_⟩, ?_⟩
  · unfold IndexS.own
    rw [List.nodup_cons]
    have e : (Value.slice (some ⟨gg, 0, none⟩) G.length gc).ownBlock.toList = [gg] := rfl
    refine ⟨fun hm => ?_, ?_⟩
    · have := (hown x).2
      rw [e] at hm
      rcases List.mem_append.1 hm with hm | hm
      · have := hlb x hm; omega
      · rw [List.mem_singleton] at hm; omega
    · show ((Value.slice a L.length c).ownBlock.toList ++ (Value.slice (some ⟨gg, 0, none⟩) G.length gc).ownBlock.toList).Nodup
      rw [e, List.nodup_append]
      refine ⟨?_, by simp, fun u hu v hv => ?_⟩
      · cases (Value.slice a L.length c).ownBlock <;> simp
      · rw [List.mem_singleton.1 hv]; exact hne u hu
  · intro k hk hk2
    obtain ⟨h1, h2, h3⟩ := hR5 k hk2
    rcases (hown k).1 hk with e | e | e
    · exact h3 e
    · have := hlb k e; omega
    · omega
  · intro k hF' hk
    rcases hk with hk | hk
    · rcases (hown k).1 hk with e | e | e
      · subst e
        rcases hsub k hF' with h1 | h1
        · exact hxF h1
        · omega
      · exact hoff k (.inl e) hF'
      · exact hoff k (.inr e) hF'
    · obtain ⟨h1, h2, h3⟩ := hR5 k hk
      rcases hsub k hF' with h4 | h4
      · exact h2 h4
      · omega
  · intro k hk
    rcases hsub k hk with h1 | h1
    · exact .inl h1
    · exact .inr (by omega)
  · intro k hk
    rcases hk with hk | hk
    · exact .inl hk
    · exact .inr (hRn k hk).1
  · intro k hk
    rcases (hown k).1 hk with e | e | e
    · exact .inl e
    · have := hlb k e; exact .inr (by omega)
    · exact .inr (by omega)
  · exact (Upd.of hb).trans h.upd fun i e => .inl e
end Go.Proofs.YtbhfbdcmamodcaaGreatDoor
namespace Go.Proofs.YtbhfbdcmamodcaaGreatDoor
open Go.RowKit Go.Maps TrMath FrMath PackMath SumMath
structure IdxOk (w : World) (x p : Nat) (I : IndexS) (R F : Foot) (v : View) (q : Nat) : Prop where
  idx : IndexAt w x I R
  dsk : I.disk = p
  disk : Disk w p F v q
  apart : Apart F (I.foot x R)
  pend : q ≤ 900
  len : ∀ y ∈ v, y.2.length ≤ 524288
  few : v.length ≤ 12
  t1 : tmpG ∉ v.map Prod.fst
  t2 : tmpC ∉ v.map Prod.fst
  names : ∀ y ∈ v, NameOk y.1
  l8 : I.links.length ≤ 8
  l100 : ∀ y ∈ I.links, y.1 < 100
  syn : SynOk w
  synF : ¬ F (nmLaysC172_ren.g 15)
  synx : nmLaysC172_ren.g 15 ≠ x
theorem IdxOk.xlt {w : World} {x p q : Nat} {I : IndexS} {R F : Foot} {v : View} (h : IdxOk w x p I R F v q) : x < w.heap.size := (Array.getElem?_eq_some_iff.1 h.idx.box).1
theorem IdxOk.off {w : World} {x p q : Nat} {I : IndexS} {R F : Foot} {v : View} (h : IdxOk w x p I R F v q) : ∀ k, R k → k < w.heap.size ∧ ¬ F k ∧ k ≠ x := fun k hk =>
  ⟨h.idx.lt k hk, fun e => h.apart k e (.inr hk), fun e => h.idx.off k (e ▸ xown_x) hk⟩
theorem GrOk.of {w : World} {Rn : Foot} {a : Option Addr} {c : Nat} {g : GraphP} (h : RowsK w Rn (.slice a g.rows.length c) g.rows) : GrOk Rn w ⟨a, g.rows.length, c, g⟩ := by
  obtain ⟨a', c', h1, h2, h3, h4⟩ := h.kept
  obtain ⟨rfl, _, rfl⟩ := Value.slice.inj h1
  exact ⟨rfl, ⟨h3, h4⟩, h2⟩
theorem GrOk.mono {w : World} {R R' : Foot} {e : GrE} (h : GrOk R w e) (hR : ∀ k, R k → R' k) (hl : ∀ k, R' k → k < w.heap.size) : GrOk R' w e := ⟨h.len, h.cap, h.rows.mono hR hl⟩
theorem xLayRows {w W : World} {x p q : Nat} {I : IndexS} {R F Rn : Foot} {v : View} (h : IdxOk w x p I R F v q) (hW : Below w.heap.size w W)
    (la : Option Addr) (lc : Nat) (L : List Link) (hL : CellsAt w la (L.flatMap linkV)) (ga : Option Addr) (gc : Nat) (G : List GrE) (hG : CellsAt w ga (G.flatMap graphC)) (hGl : G.length ≤ 8) (hgaF : ∀ b off, ga = some ⟨b, off, none⟩ → ¬ F b ∧ b < w.heap.size ∧ b ≠ x) (hGo : ∀ e ∈ G, GrOk R w e)
    (ra : Option Addr) (rc : Nat) (g : GraphP) (hK : RowsK W Rn (.slice ra g.rows.length rc) g.rows) (hRn : ∀ k, Rn k → w.heap.size ≤ k) (hgood : GoodGraph g) (htext : (graphB g).length ≤ 524288) (n : Nat) (hn : nextN I.links = n) (hn1 : n < 100) (hL8 : L.length ≤ 8) (hgc : GoodChain (L ++ [linkOf n g])) :
    Calls Tryz.prog 41 #[.pointer (some ⟨x, 0, none⟩), .slice la L.length lc, .slice ga G.length gc, .agg #[.int .i64 (g.base : Nat), .int .i64 (g.set.H : Nat), .int .i64 (g.set.P : Nat), .int .i64 (g.set.M : Nat), .int .u32 (g.set.S : Nat), .slice ra g.rows.length rc]] W fun e w' => e = .returned (.int .i64 0) ∧
      UpTo w w' x p F R ((layV v n g (L ++ [linkOf n g])).filter fun y => keepN (L ++ [linkOf n g]) y.1) (L ++ [linkOf n g]) (G.map GrE.g ++ [g]) := by
  have hE := GrOk.of hK
  have hlt : ∀ k, (R.or Rn) k → k < W.heap.size := fun k hk => by
    rcases hk with hk | hk
    · exact Nat.lt_of_lt_of_le (h.off k hk).1 hW.size
    · exact hK.lt k hk
  have hxF : ¬ F x := fun e => h.apart x e (.inl xown_x)
  have hIW : IndexAt W x I R := h.idx.below hW
  refine (xLay hIW h.dsk (h.disk.below hW) h.apart h.pend h.len h.few h.t1 h.t2 h.names la lc L (hL.below hW) ga gc G (hG.below hW) hGl (fun b off e => ?_) ra rc g hE.rows.now hE.cap hgood htext n hn hn1 h.l8 h.l100 hL8 hgc (h.syn.stays (hW.block _ h.syn.lt)) h.synF h.synx).mono fun e w' ⟨h1, h2⟩ => ⟨h1, ?_⟩
  · obtain ⟨b1, b2, b3⟩ := hgaF b off e
    exact ⟨b1, Nat.lt_of_lt_of_le b2 hW.size, b3⟩
  · have := h2.upTo hW h.xlt h.disk.lt hxF (R := R) (Rn := Rn) (fun e he => ?_) h.off (fun k hk => ⟨hRn k hk, hK.lt k hk⟩)
    · rw [List.map_append] at this
      exact this
    · rcases List.mem_append.1 he with he | he
      · exact ((hGo e he).stays (Stays.of hW fun k hk => (h.off k hk).1)).mono (fun k hk => .inl hk) hlt
      · rw [List.mem_singleton] at he
        subst he
        exact hE.mono (fun k hk => .inr hk) hlt
end Go.Proofs.YtbhfbdcmamodcaaGreatDoor
namespace Go.Proofs.YtbhfbdcmamodcaaGreatDoor
open Go.RowKit Go.Maps TrMath FrMath PackMath SumMath
def allG (Q : SetP) (ts : List Ents) (cs : List ComP) (k0 : Nat) : GraphP := ⟨k0, Q, rowsFrom Q ts cs k0 (cs.length - k0)⟩
set_option maxHeartbeats 4000000 in
set_option maxRecDepth 100000 in
theorem xCompact {w : World} {s x p q : Nat} {S : StoreS} {I : IndexS} {R F : Foot} {v : View} (h : StoreAt w s S) (ts : List Ents) (cs : List ComP) (hts : S.trees.map Prod.snd = ts) (hcs : S.commits.map Prod.snd = cs) (hg : GoodS ts cs) (hI : IdxOk w x p I R F v q) (Q : SetP) (hQ : chkR Q.H Q.P Q.M = 0) (hQs : Q.S < 4294967296)
    (ht : totalL I.links ≤ cs.length) (h0 : 0 < cs.length) (hgood : GoodGraph (allG Q ts cs 0)) (htext : (graphB (allG Q ts cs 0)).length ≤ 524288) (n : Nat) (hn : nextN I.links = n) (hn1 : n < 100) (hgc : GoodChain [linkOf n (allG Q ts cs 0)]) :
    Calls Tryz.prog 13 #[.pointer (some ⟨x, 0, none⟩), srcV s, .agg #[.int .i64 (Q.H : Nat), .int .i64 (Q.P : Nat), .int .i64 (Q.M : Nat), .int .u32 (Q.S : Nat)]] w fun e w' => e = .returned (.int .i64 0) ∧
      UpTo w w' x p F R ((layV v n (allG Q ts cs 0) [linkOf n (allG Q ts cs 0)]).filter fun y => keepN [linkOf n (allG Q ts cs 0)] y.1) [linkOf n (allG Q ts cs 0)] [allG Q ts cs 0] := by
  obtain ⟨W1, hW1⟩ : ∃ W1, w.alloc (.cells #[.int .i64 (Q.H : Nat), .int .i64 (Q.P : Nat), .int .i64 (Q.M : Nat), .int .u32 (Q.S : Nat)] 49) = W1 := ⟨_, rfl⟩
  have hb1 : Below w.heap.size w W1 := by rw [← hW1]; exact bl_alloc (Below.refl _ w) _
  have hs1 : W1.heap[w.heap.size]? = some (.cells #[.int .i64 (Q.H : Nat), .int .i64 (Q.P : Nat), .int .i64 (Q.M : Nat), .int .u32 (Q.S : Nat)] 49 (0, 0)) := by rw [← hW1]; exact heap_alloc_new _ _
  have hlen : S.commits.length = cs.length := by rw [← hcs, List.length_map]
  have hN := hg.few
  have HCl := Lib.hid (fun W (hW : Below w.heap.size w W) => xReady (h.below hW) (hI.idx.below hW) Q hQ (by have := hI.l8; omega) (by omega) (by omega))
  have HCs := Lib.hid (show ∀ W, Below w.heap.size w W → Calls Tryz.prog 15 #[.pointer (some ⟨s, 0, none⟩)] W fun e w' => e = .returned (.int .i64 (cs.length : Nat)) ∧ w' = W from fun W hW => by
    have := sCommits (h.below hW)
    rwa [hlen] at this)
  have HRw := Lib.hid (show ∀ W, Below w.heap.size w W → Calls Tryz.prog 42 #[srcV s, .agg #[.int .i64 (Q.H : Nat), .int .i64 (Q.P : Nat), .int .i64 (Q.M : Nat), .int .u32 (Q.S : Nat)], .slice none 0 0] W fun e w' => ∃ a c Rn, e = .returned (.slice a (allG Q ts cs 0).rows.length c) ∧ RowsK w' Rn (.slice a (allG Q ts cs 0).rows.length c) (allG Q ts cs 0).rows ∧ (∀ k, Rn k → w.heap.size ≤ k) ∧ Below W.heap.size W w' from fun W hW => by
    refine (xRows (h.below hW) ts cs hts hcs hg Q hQs 0 (Nat.zero_le _) none 0 (by intro j u hj; simp [gensN] at hj)).mono fun e w' ⟨va, Rn, h1, h2, h3, h4⟩ => ?_
    obtain ⟨a, c, e1, _, _, _⟩ := h2.at
    subst e1
    exact ⟨a, c, Rn, h1, h2, fun k hk => Nat.le_trans hW.size (h3 k hk), h4⟩)
  have HLy := Lib.hid (show ∀ W a c Rn, Below w.heap.size w W → RowsK W Rn (.slice a (allG Q ts cs 0).rows.length c) (allG Q ts cs 0).rows → (∀ k, Rn k → w.heap.size ≤ k) →
      Calls Tryz.prog 41 #[.pointer (some ⟨x, 0, none⟩), .slice none 0 0, .slice none 0 0, .agg #[.int .i64 0, .int .i64 (Q.H : Nat), .int .i64 (Q.P : Nat), .int .i64 (Q.M : Nat), .int .u32 (Q.S : Nat), .slice a (allG Q ts cs 0).rows.length c]] W fun e w' => e = .returned (.int .i64 0) ∧
      UpTo w w' x p F R ((layV v n (allG Q ts cs 0) [linkOf n (allG Q ts cs 0)]).filter fun y => keepN [linkOf n (allG Q ts cs 0)] y.1) [linkOf n (allG Q ts cs 0)] [allG Q ts cs 0] from fun W a c Rn hW hK hRn =>
    xLayRows hI hW none 0 [] (by intro j u hj; simp at hj) none 0 [] (by intro j u hj; simp at hj) (by simp) (fun _ _ e => by cases e) (fun e he => by cases he) a c (allG Q ts cs 0) hK hRn hgood htext n hn hn1 (by simp) hgc)
  have hd : ((cs.length : Int) == 0) = false := by rw [beq_eq_false_iff_ne]; omega
  have k0 : W1.cell? ⟨w.heap.size, 0, none⟩ = some (.int .i64 (Q.H : Nat)) := by rw [cell_of_row _ _ _ _ _ _ hs1]; rfl
  have k1 : W1.cell? ⟨w.heap.size, 1, none⟩ = some (.int .i64 (Q.P : Nat)) := by rw [cell_of_row _ _ _ _ _ _ hs1]; rfl
  have k2 : W1.cell? ⟨w.heap.size, 2, none⟩ = some (.int .i64 (Q.M : Nat)) := by rw [cell_of_row _ _ _ _ _ _ hs1]; rfl
  have k3 : W1.cell? ⟨w.heap.size, 3, none⟩ = some (.int .u32 (Q.S : Nat)) := by rw [cell_of_row _ _ _ _ _ _ hs1]; rfl
  have hm1 := mCommits
  have HW1 := Lib.hid hW1; have HB1 := Lib.hid hb1; have HS1 := Lib.hid hs1
  have HNN := Lib.hid hN
  clear h hts hcs hg hI hQ hQs ht hgood htext hn hgc hW1 hb1 hs1 hlen hN
  generalize (allG Q ts cs 0) = g at *
  unfold srcV at HCl HRw ⊢
  go_enter Tryz.func13, Tryz.ntmps13
  go_wp2_with fail
  rw [HW1.out]
  go_wp2_with fail
  (with_reducible refine (HCl.out _ HB1.out).mono ?_)
  rintro e w2 ⟨rfl, hb⟩
  have HB2 := Lib.hid (bl_trans HB1.out hb)
  have HB12 := Lib.hid hb
  have q0 := bl_cell hb k0; have q1 := bl_cell hb k1; have q2 := bl_cell hb k2; have q3 := bl_cell hb k3
  clear hb k0 k1 k2 k3
  go_wp2_with fail
  (with_reducible refine (HCs.out _ HB2.out).mono ?_)
  rintro e w3 ⟨rfl, rfl⟩
  have HBD := Lib.hid (bl_drew HB2.out)
  go_wp2_with fail
  go_region_law (first
    | (go_simp; go_at_call 42; (with_reducible refine (HRw.out _ (by first | exact HB2.out | exact HBD.out)).mono ?_); rintro e wr ⟨a, c, Rn, rfl, hk, hr, hb⟩; have HK := Lib.hid hk; have HRN := Lib.hid hr; have HBR := Lib.hid (show Below w.heap.size w wr from by first | exact bl_trans HBD.out hb | exact bl_trans HB2.out hb); have m0 := bl_cell hb q0; have m1 := bl_cell hb q1; have m2 := bl_cell hb q2; have m3 := bl_cell hb q3; clear hk hr hb)
    | (go_simp; go_at_call 41; (with_reducible refine (HLy.out _ _ _ _ HBR.out HK.out HRN.out).mono ?_); rintro e w' ⟨rfl, hu⟩; have HF := Lib.hid hu; clear hu))
  all_goals
    go_wp2
    go_ret
    exact ⟨rfl, HF.out⟩
end Go.Proofs.YtbhfbdcmamodcaaGreatDoor
namespace Go.Proofs.YtbhfbdcmamodcaaGreatDoor
open Go.RowKit Go.Maps TrMath FrMath PackMath SumMath
theorem nodup_le {α : Type} [DecidableEq α] : ∀ (l m : List α), l.Nodup → (∀ x ∈ l, x ∈ m) → l.length ≤ m.length
  | [], _, _, _ => Nat.zero_le _
  | x :: r, m, hd, hs => by
    obtain ⟨h1, h2⟩ := List.nodup_cons.1 hd
    have hx : x ∈ m := hs x (by simp)
    have := nodup_le r (m.erase x) h2 fun y hy => (List.mem_erase_of_ne (fun e => h1 (by rw [← e]; exact hy))).2 (hs y (by simp [hy]))
    rw [List.length_erase_of_mem hx] at this
    have hp : 0 < m.length := List.length_pos_of_mem hx
    simp only [List.length_cons]
    omega
theorem key_one {v : View} (h : (v.map Prod.fst).Nodup) {s : ByteArray} {a b : List UInt8} (ha : (s, a) ∈ v) (hb : (s, b) ∈ v) : a = b := by
  induction v with
  | nil => simp at ha
  | cons y r ih =>
    rw [List.map_cons, List.nodup_cons] at h
    rcases List.mem_cons.1 ha with ha | ha <;> rcases List.mem_cons.1 hb with hb | hb
    · rw [← ha] at hb; exact (Prod.mk.inj hb).2.symm
    · exact absurd (List.mem_map.2 ⟨_, hb, by rw [← ha]⟩) h.1
    · exact absurd (List.mem_map.2 ⟨_, ha, by rw [← hb]⟩) h.1
    · exact ih h.2 ha hb
structure IdxDisk (v : View) (T : List UInt8) (L : List Link) (gs : List GraphP) : Prop where
  log : (logN, T) ∈ v
  names : ∀ y ∈ v, y.1 = logN ∨ (L ≠ [] ∧ y.1 = chainN) ∨ ∃ l ∈ L, y.1 = nameG l.1
  chain : L ≠ [] → (chainN, chainB L) ∈ v
  len : L.length = gs.length
  files : ∀ i (h : i < L.length) (h2 : i < gs.length), (nameG L[i].1, graphB gs[i]) ∈ v ∧ L[i] = linkOf L[i].1 gs[i]
  nodup : (v.map Prod.fst).Nodup
  l100 : ∀ y ∈ L, y.1 < 100
theorem chain_log : chainN ≠ logN := by decide
theorem IdxDisk.few {v : View} {T : List UInt8} {L : List Link} {gs : List GraphP} (h : IdxDisk v T L gs) : v.length ≤ L.length + 2 := by
  have := nodup_le (v.map Prod.fst) (logN :: chainN :: L.map fun l => nameG l.1) h.nodup fun x hx => by
    obtain ⟨y, hy, rfl⟩ := List.mem_map.1 hx
    rcases h.names y hy with e | ⟨_, e⟩ | ⟨l, hl, e⟩
    · simp [e]
    · simp [e]
    · rw [e]; exact List.mem_cons_of_mem _ (List.mem_cons_of_mem _ (List.mem_map.2 ⟨l, hl, rfl⟩))
  simpa using this
theorem IdxDisk.ok {v : View} {T : List UInt8} {L : List Link} {gs : List GraphP} (h : IdxDisk v T L gs) : ∀ y ∈ v, NameOk y.1 := fun y hy => by
  rcases h.names y hy with e | ⟨_, e⟩ | ⟨l, hl, e⟩
  · exact .inl e
  · exact .inr (.inl e)
  · exact .inr (.inr ⟨l.1, h.l100 l hl, e⟩)
theorem IdxDisk.tmp {v : View} {T : List UInt8} {L : List Link} {gs : List GraphP} (h : IdxDisk v T L gs) : tmpG ∉ v.map Prod.fst ∧ tmpC ∉ v.map Prod.fst := by
  have key : ∀ s, NameOk s → s ≠ tmpG ∧ s ≠ tmpC := fun s hs => by
    rcases hs with rfl | rfl | ⟨k, hk, rfl⟩
    · decide
    · decide
    · exact ⟨(name_all hk).2.1, (name_all hk).2.2.1⟩
  constructor
  · intro hm
    obtain ⟨y, hy, e⟩ := List.mem_map.1 hm
    exact (key _ (h.ok y hy)).1 e
  · intro hm
    obtain ⟨y, hy, e⟩ := List.mem_map.1 hm
    exact (key _ (h.ok y hy)).2 e
theorem IdxDisk.small {v : View} {T : List UInt8} {L : List Link} {gs : List GraphP} (h : IdxDisk v T L gs) (hT : T.length ≤ 524288) (hL : L.length ≤ 8) (hg : ∀ g ∈ gs, (graphB g).length ≤ 524288) : ∀ y ∈ v, y.2.length ≤ 524288 := fun y hy => by
  obtain ⟨s, t⟩ := y
  rcases h.names _ hy with e | ⟨e0, e⟩ | ⟨l, hl, e⟩
  · simp only at e
    subst e
    rw [key_one h.nodup hy h.log]
    exact hT
  · simp only at e
    subst e
    rw [key_one h.nodup hy (h.chain e0)]
    show (chainB L).length ≤ _
    rw [chainB_len]
    omega
  · simp only at e
    subst e
    obtain ⟨i, hi, rfl⟩ := List.mem_iff_getElem.1 hl
    have hi2 : i < gs.length := by rw [← h.len]; exact hi
    rw [key_one h.nodup hy (h.files i hi hi2).1]
    exact hg _ (List.getElem_mem hi2)
theorem IdxDisk.grow {vpre vpost : View} {T T' : List UInt8} {L : List Link} {gs : List GraphP} (h : IdxDisk (vpre ++ (logN, T) :: vpost) T L gs) : IdxDisk (vpre ++ (logN, T') :: vpost) T' L gs := by
  have hmem : ∀ y, y.1 ≠ logN → y ∈ vpre ++ (logN, T) :: vpost → y ∈ vpre ++ (logN, T') :: vpost := fun y hn hy => by
    rcases List.mem_append.1 hy with hy | hy
    · exact List.mem_append_left _ hy
    · rcases List.mem_cons.1 hy with rfl | hy
      · exact absurd rfl hn
      · exact List.mem_append_right _ (List.mem_cons_of_mem _ hy)
  refine ⟨by simp, fun y hy => ?_, fun hL => hmem _ chain_log (h.chain hL), h.len, fun i hi hi2 => ⟨hmem _ (name_all (h.l100 _ (List.getElem_mem hi))).2.2.2.2 (h.files i hi hi2).1, (h.files i hi hi2).2⟩, ?_, h.l100⟩
  · rcases List.mem_append.1 hy with hy | hy
    · exact h.names y (List.mem_append_left _ hy)
    · rcases List.mem_cons.1 hy with rfl | hy
      · exact .inl rfl
      · exact h.names y (List.mem_append_right _ (List.mem_cons_of_mem _ hy))
  · have := h.nodup
    simp only [List.map_append, List.map_cons] at this ⊢
    exact this
theorem IdxDisk.split {v : View} {T : List UInt8} {L : List Link} {gs : List GraphP} (h : IdxDisk v T L gs) : ∃ vpre vpost, v = vpre ++ (logN, T) :: vpost := List.append_of_mem h.log
theorem lay_mem {v : View} {n : Nat} {g : GraphP} {L : List Link} {y : ByteArray × List UInt8} : y ∈ layV v n g L ↔ ((y.1 ≠ chainN ∧ ((y ∈ v ∧ y.1 ≠ nameG n) ∨ y = (nameG n, graphB g))) ∨ y = (chainN, chainB L)) := by
  unfold layV offV
  rw [List.mem_append, List.mem_filter, List.mem_append, List.mem_filter, List.mem_singleton, List.mem_singleton, decide_eq_true_eq, decide_eq_true_eq]
  constructor
  · rintro (⟨h1, h2⟩ | h)
    · exact .inl ⟨h2, h1⟩
    · exact .inr h
  · rintro (⟨h1, h2⟩ | h)
    · exact .inl ⟨h2, h1⟩
    · exact .inr h
theorem IdxDisk.lay {v : View} {T : List UInt8} {L : List Link} {gs : List GraphP} (h : IdxDisk v T L gs) {n : Nat} (hn : n < 100) (hnew : ∀ y ∈ L, y.1 ≠ n) (g : GraphP) {L0 : List Link} {gs0 : List GraphP} (h0 : (L0 = L ∧ gs0 = gs) ∨ (L0 = [] ∧ gs0 = []))
    (hd : (((layV v n g (L0 ++ [linkOf n g])).filter fun y => keepN (L0 ++ [linkOf n g]) y.1).map Prod.fst).Nodup) :
    IdxDisk ((layV v n g (L0 ++ [linkOf n g])).filter fun y => keepN (L0 ++ [linkOf n g]) y.1) T (L0 ++ [linkOf n g]) (gs0 ++ [g]) := by
  have hl0 : L0.length = gs0.length := by
    rcases h0 with ⟨rfl, rfl⟩ | ⟨rfl, rfl⟩
    · exact h.len
    · rfl
  have hsub : ∀ l ∈ L0, l ∈ L := fun l hl => by
    rcases h0 with ⟨rfl, rfl⟩ | ⟨rfl, rfl⟩
    · exact hl
    · cases hl
  have hnk : keepN (L0 ++ [linkOf n g]) (nameG n) = true := by rw [keep_name hn]; simp [linkOf]
  refine ⟨List.mem_filter.2 ⟨lay_mem.2 (.inl ⟨chain_log.symm, .inl ⟨h.log, (name_all hn).2.2.2.2.symm⟩⟩), keep_log _⟩, fun y hy => ?_, fun _ => List.mem_filter.2 ⟨lay_mem.2 (.inr rfl), keep_chain _⟩, by simp [hl0], fun i hi hi2 => ?_, hd, fun y hy => ?_⟩
  · obtain ⟨hy, hk⟩ := List.mem_filter.1 hy
    rcases lay_mem.1 hy with ⟨h1, ⟨h2, h3⟩ | rfl⟩ | rfl
    · rcases h.names y h2 with e | ⟨_, e⟩ | ⟨l, hl, e⟩
      · exact .inl e
      · exact absurd e h1
      · rw [e, keep_name (h.l100 l hl), List.any_eq_true] at hk
        obtain ⟨l', hl', e'⟩ := hk
        exact .inr (.inr ⟨l', hl', by rw [e, of_decide_eq_true e']⟩)
    · exact .inr (.inr ⟨linkOf n g, by simp, rfl⟩)
    · exact .inr (.inl ⟨by simp, rfl⟩)
  · by_cases hi0 : i < L0.length
    · have hi0' : i < gs0.length := by omega
      have e1 : (L0 ++ [linkOf n g])[i] = L0[i] := by rw [List.getElem_append_left hi0]
      have e2 : (gs0 ++ [g])[i] = gs0[i] := by rw [List.getElem_append_left hi0']
      rw [e1, e2]
      have hk : keepN (L0 ++ [linkOf n g]) (nameG L0[i].1) = true := by
        rw [keep_name (h.l100 _ (hsub _ (List.getElem_mem hi0))), List.any_eq_true]
        exact ⟨L0[i], List.mem_append_left _ (List.getElem_mem hi0), decide_eq_true rfl⟩
      have hln := h.l100 _ (hsub _ (List.getElem_mem hi0))
      have hne := hnew _ (hsub _ (List.getElem_mem hi0))
      rcases h0 with ⟨rfl, rfl⟩ | ⟨rfl, rfl⟩
      · obtain ⟨f1, f2⟩ := h.files i hi0 hi0'
        exact ⟨List.mem_filter.2 ⟨lay_mem.2 (.inl ⟨(name_all hln).2.2.2.1, .inl ⟨f1, fun e => hne (nameG_inj hln hn e)⟩⟩), hk⟩, f2⟩
      · simp at hi0
    · have hi1 : i = L0.length := by simp at hi; omega
      subst hi1
      have e1 : (L0 ++ [linkOf n g])[L0.length] = linkOf n g := by simp
      have e2 : (gs0 ++ [g])[L0.length] = g := by simp [hl0]
      rw [e1, e2]
      exact ⟨List.mem_filter.2 ⟨lay_mem.2 (.inl ⟨(name_all hn).2.2.2.1, .inr rfl⟩), hnk⟩, rfl⟩
  · rcases List.mem_append.1 hy with hy | hy
    · exact h.l100 y (hsub y hy)
    · rw [List.mem_singleton.1 hy]
      exact hn
end Go.Proofs.YtbhfbdcmamodcaaGreatDoor
namespace Go.Proofs.YtbhfbdcmamodcaaGreatDoor
open Go.RowKit Go.Maps TrMath FrMath PackMath SumMath
structure OkQ (Q : SetP) : Prop where
  chk : chkR Q.H Q.P Q.M = 0
  set : GoodSet Q
  few : Q.M * Q.P ≤ 64
theorem filN_ok {Q : SetP} (hQ : OkQ Q) (ts : List Ents) (cs : List ComP) (n : Nat) : ((filN Q ts cs n).1 = 1 ∧ (filN Q ts cs n).2.size ≠ 0 ∧ (filN Q ts cs n).2.size ≤ 9) ∨ ((filN Q ts cs n).1 = 2 ∧ (filN Q ts cs n).2.size = 0) := by
  unfold filN
  obtain ⟨l, hl⟩ : ∃ l, pathsL (diffL (oldOf ts cs n) (treeOf ts cs n)) = l := ⟨_, rfl⟩
  rw [hl]
  by_cases h : (Q.M : Int) < (uniq l).length
  · rw [mk_large hQ.chk h]
    exact .inr ⟨rfl, rfl⟩
  · rw [mk_small hQ.chk h]
    refine .inl ⟨rfl, ?_, ?_⟩
    · show (fbits _ _ _ _).size ≠ 0
      rw [fbits_len]
      have := room_pos (uniq l).length ((Q.P : Int)).toNat
      omega
    · show (fbits _ _ _ _).size ≤ 9
      rw [fbits_len]
      have h1 : (uniq l).length ≤ Q.M := by omega
      have h2 : (uniq l).length * Q.P ≤ Q.M * Q.P := Nat.mul_le_mul_right _ h1
      have := hQ.few
      show max 1 (((uniq l).length * Q.P + 7) / 8) ≤ 9
      omega
theorem getD_app {α : Type} {l m : List α} {n : Nat} {d : α} (h : n < l.length) : (l ++ m).getD n d = l.getD n d := by
  rw [List.getD_eq_getElem?_getD, List.getD_eq_getElem?_getD, List.getElem?_append_left h]
theorem gensN_mono (cs c : List ComP) : ∀ n, n ≤ cs.length → gensN (cs ++ c) n = gensN cs n
  | 0, _ => rfl
  | n + 1, h => by rw [gensN, gensN, gensN_mono cs c n (by omega), getD_app (by omega)]
theorem genAt_mono (cs c : List ComP) {n : Nat} (h : n < cs.length) : genAt (cs ++ c) n = genAt cs n := by unfold genAt; rw [gensN_mono cs c (n + 1) h]
theorem GoodS.getD {ts : List Ents} {cs : List ComP} (hg : GoodS ts cs) {n : Nat} (h : n < cs.length) : GoodC (cs.getD n ([], 0)) ∧ (∀ p ∈ (cs.getD n ([], 0)).1, p < n) ∧ (cs.getD n ([], 0)).2 < ts.length := by
  have e : cs[n]? = some (cs.getD n ([], 0)) := by rw [List.getD_eq_getElem?_getD, List.getElem?_eq_getElem h]; rfl
  exact hg.commits n _ e
theorem treeOf_mono {ts : List Ents} {cs : List ComP} (hg : GoodS ts cs) (t : List Ents) (c : List ComP) {n : Nat} (h : n < cs.length) : treeOf (ts ++ t) (cs ++ c) n = treeOf ts cs n := by
  unfold treeOf
  rw [getD_app h, getD_app (hg.getD h).2.2]
theorem oldOf_mono {ts : List Ents} {cs : List ComP} (hg : GoodS ts cs) (t : List Ents) (c : List ComP) {n : Nat} (h : n < cs.length) : oldOf (ts ++ t) (cs ++ c) n = oldOf ts cs n := by
  unfold oldOf
  rw [getD_app h]
  have h2 := (hg.getD h).2.1
  generalize (cs.getD n ([], 0)).1 = ps at *
  cases ps with
  | nil => rfl
  | cons p r => exact treeOf_mono hg t c (by have := h2 p (by simp); omega)
theorem rowN_mono {ts : List Ents} {cs : List ComP} (hg : GoodS ts cs) (t : List Ents) (c : List ComP) (Q : SetP) {n : Nat} (h : n < cs.length) : rowN Q (ts ++ t) (cs ++ c) n = rowN Q ts cs n := by
  unfold rowN filN
  rw [oldOf_mono hg t c h, treeOf_mono hg t c h, genAt_mono cs c h, getD_app h]
theorem rowsFrom_mono {ts : List Ents} {cs : List ComP} (hg : GoodS ts cs) (t : List Ents) (c : List ComP) (Q : SetP) {k m : Nat} (h : k + m ≤ cs.length) : rowsFrom Q (ts ++ t) (cs ++ c) k m = rowsFrom Q ts cs k m := by
  unfold rowsFrom
  apply List.map_congr_left
  intro i hi
  have := List.mem_range.1 hi
  exact rowN_mono hg t c Q (by omega)
inductive Layd (ts : List Ents) (cs : List ComP) : List GraphP → Nat → Prop
  | nil : Layd ts cs [] 0
  | push {gs : List GraphP} {k : Nat} {Q : SetP} {m : Nat} : Layd ts cs gs k → OkQ Q → 0 < m → k + m ≤ cs.length → Layd ts cs (gs ++ [⟨k, Q, rowsFrom Q ts cs k m⟩]) (k + m)
section
variable {ts : List Ents} {cs : List ComP} {gs : List GraphP} {k : Nat}
theorem Layd.le (h : Layd ts cs gs k) : k ≤ cs.length := by
  cases h with
  | nil => exact Nat.zero_le _
  | push _ _ _ h => exact h
theorem Layd.mono (hg : GoodS ts cs) (t : List Ents) (c : List ComP) (h : Layd ts cs gs k) : Layd (ts ++ t) (cs ++ c) gs k := by
  induction h with
  | nil => exact .nil
  | push h0 hQ hm hk ih =>
    rw [← rowsFrom_mono hg t c _ hk]
    exact .push ih hQ hm (by rw [List.length_append]; omega)
theorem Layd.sum (h : Layd ts cs gs k) : (gs.map fun g => g.rows.length).sum = k := by
  induction h with
  | nil => rfl
  | push h0 hQ hm hk ih =>
    rw [List.map_append, List.sum_append, ih]
    simp [rowsFrom_len]
theorem Layd.pos (h : Layd ts cs gs k) : ∀ g ∈ gs, 1 ≤ g.rows.length ∧ g.base + g.rows.length ≤ cs.length := by
  induction h with
  | nil => simp
  | push h0 hQ hm hk ih =>
    intro g hg
    rcases List.mem_append.1 hg with hg | hg
    · exact ih g hg
    · rw [List.mem_singleton.1 hg]
      simp only [rowsFrom_len]
      exact ⟨hm, hk⟩
theorem gens_from (Q : SetP) (ts : List Ents) (cs : List ComP) (k : Nat) : ∀ m, gensN cs (k + m) = gensN cs k ++ genRows (rowsFrom Q ts cs k m)
  | 0 => by simp [rowsFrom, genRows]
  | m + 1 => by
    rw [← Nat.add_assoc, gensN_succ, gens_from Q ts cs k m, rowsFrom_succ]
    unfold genRows
    rw [List.map_append, List.append_assoc]
    rfl
theorem Layd.gens (h : Layd ts cs gs k) : gs.flatMap (fun g => genRows g.rows) = gensN cs k := by
  induction h with
  | nil => rfl
  | push h0 hQ hm hk ih =>
    rename_i gs0 k0 Q m
    rw [List.flatMap_append, ih, gens_from Q ts cs]
    simp
theorem Layd.base (h : Layd ts cs gs k) : ∀ i (hi : i < gs.length), gs[i].base = ((gs.take i).map fun g => g.rows.length).sum := by
  induction h with
  | nil => intro i hi; simp at hi
  | push h0 hQ hm hk ih =>
    rename_i gs0 k0 Q m
    intro i hi
    by_cases h1 : i < gs0.length
    · rw [List.getElem_append_left h1, List.take_append_of_le_length (by omega)]
      exact ih i h1
    · have : i = gs0.length := by simp at hi; omega
      subst this
      rw [List.take_append_of_le_length (Nat.le_refl _), List.take_length, h0.sum]
      simp
theorem Layd.find (h : Layd ts cs gs k) : ∀ n, n < k → ∃ (t : Nat) (ht : t < gs.length) (Q : SetP), gs[t].base ≤ n ∧ n < gs[t].base + gs[t].rows.length ∧ (∀ j (hj : j < gs.length), j < t → gs[j].base + gs[j].rows.length ≤ n) ∧ gs[t].rows[n - gs[t].base]? = some (rowN Q ts cs n) := by
  induction h with
  | nil => intro n hn; omega
  | push h0 hQ hm hk ih =>
    rename_i gs0 k0 Q m
    intro n hn
    by_cases h1 : n < k0
    · obtain ⟨t, ht, Q', e1, e2, e3, e4⟩ := ih n h1
      refine ⟨t, by rw [List.length_append]; omega, Q', ?_⟩
      rw [List.getElem_append_left ht]
      refine ⟨e1, e2, fun j hj hjt => ?_, e4⟩
      rw [List.getElem_append_left (by omega : j < gs0.length)]
      exact e3 j (by omega) hjt
    · refine ⟨gs0.length, by simp, Q, ?_⟩
      have e : (gs0 ++ [(⟨k0, Q, rowsFrom Q ts cs k0 m⟩ : GraphP)])[gs0.length]'(by simp) = ⟨k0, Q, rowsFrom Q ts cs k0 m⟩ := by simp
      rw [e]
      simp only [rowsFrom_len]
      refine ⟨by omega, hn, fun j hj hjt => ?_, ?_⟩
      · rw [List.getElem_append_left hjt]
        have hb := h0.base j hjt
        have hs := h0.sum
        have h3 : ((gs0.take (j + 1)).map fun g => g.rows.length).sum ≤ (gs0.map fun g => g.rows.length).sum := by
          have h4 := congrArg (fun x => (x.map fun g : GraphP => g.rows.length).sum) (List.take_append_drop (j + 1) gs0)
          simp only [List.map_append, List.sum_append] at h4
          omega
        rw [List.take_succ_eq_append_getElem hjt, List.map_append, List.sum_append] at h3
        simp only [List.map_cons, List.map_nil, List.sum_cons, List.sum_nil] at h3
        omega
      · unfold rowsFrom
        rw [List.getElem?_map, List.getElem?_range (by omega)]
        show some (rowN Q ts cs (k0 + (n - k0))) = _
        rw [show k0 + (n - k0) = n from by omega]
theorem rowN_good (hg : GoodS ts cs) {Q : SetP} (hQ : OkQ Q) {n : Nat} (h : n < cs.length) : GoodRow (rowN Q ts cs n) n := by
  obtain ⟨h1, h2, h3⟩ := hg.getD h
  refine ⟨h1.few, h2, h1.alike, h1.tree, ?_, ?_⟩
  · show 1 ≤ genAt cs n ∧ genAt cs n ≤ 1023
    rw [genAt_eq]
    exact nextG_pos _
  · rcases filN_ok hQ ts cs n with ⟨e1, e2, e3⟩ | ⟨e1, e2⟩
    · exact .inl ⟨e1, e2, by show (filN Q ts cs n).2.size ≤ 4096; omega⟩
    · exact .inr ⟨e1, e2⟩
theorem bits_from {Q : SetP} (hQ : OkQ Q) (ts : List Ents) (cs : List ComP) (k : Nat) : ∀ m, (bitsB (rowsFrom Q ts cs k m)).length ≤ 9 * m
  | 0 => by simp [rowsFrom, bitsB]
  | m + 1 => by
    have h1 := bits_from hQ ts cs k m
    have h2 : (rowN Q ts cs (k + m)).bits.size ≤ 9 := by
      show (filN Q ts cs (k + m)).2.size ≤ 9
      rcases filN_ok hQ ts cs (k + m) with ⟨_, _, e⟩ | ⟨_, e⟩ <;> omega
    rw [rowsFrom_succ]
    unfold bitsB at h1 ⊢
    rw [List.flatMap_append, List.length_append]
    simp only [List.flatMap_cons, List.flatMap_nil, List.append_nil]
    rw [size_list]
    omega
theorem layer_good (hg : GoodS ts cs) (hc : cs.length ≤ 1200) {Q : SetP} (hQ : OkQ Q) {m : Nat} (h : k + m ≤ cs.length) : GoodGraph ⟨k, Q, rowsFrom Q ts cs k m⟩ ∧ (graphB ⟨k, Q, rowsFrom Q ts cs k m⟩).length ≤ 524288 := by
  have hb := bits_from hQ ts cs k m
  have hgood : GoodGraph ⟨k, Q, rowsFrom Q ts cs k m⟩ := by
    refine ⟨by show k + (rowsFrom Q ts cs k m).length ≤ 12000; rw [rowsFrom_len]; omega, fun i hi => ?_, hQ.set, by show (bitsB (rowsFrom Q ts cs k m)).length ≤ 3000000; omega⟩
    have hi' : i < m := by have : i < (rowsFrom Q ts cs k m).length := hi; rwa [rowsFrom_len] at this
    have e : (rowsFrom Q ts cs k m)[i]'hi = rowN Q ts cs (k + i) := by simp [rowsFrom]
    show GoodRow ((rowsFrom Q ts cs k m)[i]'hi) (k + i)
    rw [e]
    exact rowN_good hg hQ (by omega)
  refine ⟨hgood, ?_⟩
  rw [graphB_len, chunksG_bulk]
  have he := edges_le (rowsFrom Q ts cs k m) hgood.par
  simp only [rowsFrom_len] at he ⊢
  omega
theorem Layd.good (hg : GoodS ts cs) (hc : cs.length ≤ 1200) (h : Layd ts cs gs k) : ∀ g ∈ gs, GoodGraph g ∧ (graphB g).length ≤ 524288 := by
  induction h with
  | nil => simp
  | push h0 hQ hm hk ih =>
    intro g hg2
    rcases List.mem_append.1 hg2 with h | h
    · exact ih g h
    · rw [List.mem_singleton.1 h]
      exact layer_good hg hc hQ hk
end
theorem IdxDisk.counts {v : View} {T : List UInt8} {L : List Link} {gs : List GraphP} (h : IdxDisk v T L gs) : L.map (·.2.1) = gs.map fun g => g.rows.length := by
  apply List.ext_getElem
  · simp [h.len]
  · intro i h1 h2
    simp only [List.getElem_map]
    have hi : i < L.length := by simpa using h1
    have hi2 : i < gs.length := by simpa using h2
    rw [(h.files i hi hi2).2]
    rfl
theorem IdxDisk.chainOk {v : View} {T : List UInt8} {L : List Link} {gs : List GraphP} {ts : List Ents} {cs : List ComP} {k : Nat} (h : IdxDisk v T L gs) (hl : Layd ts cs gs k) (hc : cs.length ≤ 1200) (h8 : L.length ≤ 8) (hd : (L.map (·.1)).Nodup) : GoodChain L := by
  have hcnt := h.counts
  refine ⟨h8, fun x hx => by have := h.l100 x hx; omega, fun x hx => ?_, fun x hx => ?_, hd, ?_⟩
  · have : x.2.1 ∈ L.map (·.2.1) := List.mem_map.2 ⟨x, hx, rfl⟩
    rw [hcnt] at this
    obtain ⟨g, hg, e⟩ := List.mem_map.1 this
    have := hl.pos g hg
    omega
  · obtain ⟨i, hi, rfl⟩ := List.mem_iff_getElem.1 hx
    have hi2 : i < gs.length := by rw [← h.len]; exact hi
    rw [(h.files i hi hi2).2]
    exact crc_lt _
  · unfold totalL
    rw [hcnt, hl.sum]
    have := hl.le
    omega
end Go.Proofs.YtbhfbdcmamodcaaGreatDoor
namespace Go.Proofs.YtbhfbdcmamodcaaGreatDoor
open Go.RowKit Go.Maps TrMath FrMath PackMath SumMath
theorem IdxOk.below {w y : World} {x p q : Nat} {I : IndexS} {R F : Foot} {v : View} (h : IdxOk w x p I R F v q) (hb : Below w.heap.size w y) : IdxOk y x p I R F v q :=
  ⟨h.idx.below hb, h.dsk, h.disk.below hb, h.apart, h.pend, h.len, h.few, h.t1, h.t2, h.names, h.l8, h.l100, h.syn.stays (hb.block _ h.syn.lt), h.synF, h.synx⟩
theorem UpTo.after {w y w' : World} {x p : Nat} {F R : Foot} {V : View} {L : List Link} {gs : List GraphP} (h : UpTo y w' x p F R V L gs) (hb : Below w.heap.size w y) : UpTo w w' x p F R V L gs := by
  obtain ⟨F', I', R', q', h1, h2, h3, h4, h5, h6, h7, h8, h9, h10⟩ := h.out
  have hz := hb.size
  refine ⟨⟨F', I', R', q', h1, h2, h3, h4, h5, h6, h7, fun k hk => ?_, fun k hk => ?_, fun k hk => ?_⟩, (Upd.of hb).trans h.upd fun i e => .inl e⟩
  · rcases h8 k hk with e | e
    · exact .inl e
    · exact .inr (by omega)
  · rcases h9 k hk with e | e
    · exact .inl e
    · exact .inr (by omega)
  · rcases h10 k hk with e | e
    · exact .inl e
    · exact .inr (by omega)
set_option maxHeartbeats 4000000 in
set_option maxRecDepth 100000 in
theorem xUpdateNone {w : World} {s x : Nat} {S : StoreS} {I : IndexS} {R : Foot} (h : StoreAt w s S) (hI : IndexAt w x I R) (Q : SetP) (hQ : chkR Q.H Q.P Q.M = 0) (hl : I.links.length ≤ 1000) (hN : S.commits.length ≤ 1000000) (ht : totalL I.links = S.commits.length) :
    Calls Tryz.prog 12 #[.pointer (some ⟨x, 0, none⟩), srcV s, .agg #[.int .i64 (Q.H : Nat), .int .i64 (Q.P : Nat), .int .i64 (Q.M : Nat), .int .u32 (Q.S : Nat)]] w fun e w' => e = .returned (.int .i64 0) ∧ Below w.heap.size w w' := by
  obtain ⟨W1, hW1⟩ : ∃ W1, w.alloc (.cells #[.int .i64 (Q.H : Nat), .int .i64 (Q.P : Nat), .int .i64 (Q.M : Nat), .int .u32 (Q.S : Nat)] 49) = W1 := ⟨_, rfl⟩
  have hb1 : Below w.heap.size w W1 := by rw [← hW1]; exact bl_alloc (Below.refl _ w) _
  have hs1 : W1.heap[w.heap.size]? = some (.cells #[.int .i64 (Q.H : Nat), .int .i64 (Q.P : Nat), .int .i64 (Q.M : Nat), .int .u32 (Q.S : Nat)] 49 (0, 0)) := by rw [← hW1]; exact heap_alloc_new _ _
  have k0 : W1.cell? ⟨w.heap.size, 0, none⟩ = some (.int .i64 (Q.H : Nat)) := by rw [cell_of_row _ _ _ _ _ _ hs1]; rfl
  have k1 : W1.cell? ⟨w.heap.size, 1, none⟩ = some (.int .i64 (Q.P : Nat)) := by rw [cell_of_row _ _ _ _ _ _ hs1]; rfl
  have k2 : W1.cell? ⟨w.heap.size, 2, none⟩ = some (.int .i64 (Q.M : Nat)) := by rw [cell_of_row _ _ _ _ _ _ hs1]; rfl
  have k3 : W1.cell? ⟨w.heap.size, 3, none⟩ = some (.int .u32 (Q.S : Nat)) := by rw [cell_of_row _ _ _ _ _ _ hs1]; rfl
  have HCl := Lib.hid (fun W (hW : Below w.heap.size w W) => xReady (h.below hW) (hI.below hW) Q hQ hl hN (by omega))
  have HCs := Lib.hid (show ∀ W, Below w.heap.size w W → Calls Tryz.prog 15 #[.pointer (some ⟨s, 0, none⟩)] W fun e w' => e = .returned (.int .i64 (S.commits.length : Nat)) ∧ w' = W from fun W hW => sCommits (h.below hW))
  have HLn := Lib.hid (show ∀ W, Below w.heap.size w W → Calls Tryz.prog 16 #[.pointer (some ⟨x, 0, none⟩)] W fun e w' => e = .returned (.int .i64 (S.commits.length : Nat)) ∧ Below W.heap.size W w' from fun W hW => by
    have := xLen (hI.below hW) hl (by omega)
    rwa [ht] at this)
  have hd : ((S.commits.length : Int) == (S.commits.length : Int)) = true := by simp
  have hm1 := mCommits
  have HW1 := Lib.hid hW1; have HB1 := Lib.hid hb1
  clear h hI hW1 hb1 hs1 hQ ht
  unfold srcV at HCl ⊢
  go_enter Tryz.func12, Tryz.ntmps12
  go_wp2_with fail
  rw [HW1.out]
  go_wp2_with fail
  (with_reducible refine (HCl.out _ HB1.out).mono ?_)
  rintro e w2 ⟨rfl, hb⟩
  have HB2 := Lib.hid (bl_trans HB1.out hb)
  clear hb
  go_wp2_with fail
  (with_reducible refine (HCs.out _ HB2.out).mono ?_)
  rintro e w3 ⟨rfl, rfl⟩
  go_wp2_with fail
  (with_reducible refine (HLn.out _ HB2.out).mono ?_)
  rintro e w4 ⟨rfl, hb⟩
  have HB4 := Lib.hid (bl_trans HB2.out hb)
  clear hb
  go_wp2
  go_ret
  exact ⟨rfl, HB4.out⟩
set_option maxHeartbeats 4000000 in
set_option maxRecDepth 100000 in
theorem xUpdateFull {w : World} {s x p q : Nat} {S : StoreS} {I : IndexS} {R F : Foot} {v : View} (h : StoreAt w s S) (ts : List Ents) (cs : List ComP) (hts : S.trees.map Prod.snd = ts) (hcs : S.commits.map Prod.snd = cs) (hg : GoodS ts cs) (hI : IdxOk w x p I R F v q) (Q : SetP) (hQ : chkR Q.H Q.P Q.M = 0) (hQs : Q.S < 4294967296)
    (ht : totalL I.links < cs.length) (hl8 : I.links.length = 8) (hgood : GoodGraph (allG Q ts cs 0)) (htext : (graphB (allG Q ts cs 0)).length ≤ 524288) (n : Nat) (hn : nextN I.links = n) (hn1 : n < 100) (hgc : GoodChain [linkOf n (allG Q ts cs 0)]) :
    Calls Tryz.prog 12 #[.pointer (some ⟨x, 0, none⟩), srcV s, .agg #[.int .i64 (Q.H : Nat), .int .i64 (Q.P : Nat), .int .i64 (Q.M : Nat), .int .u32 (Q.S : Nat)]] w fun e w' => e = .returned (.int .i64 0) ∧
      UpTo w w' x p F R ((layV v n (allG Q ts cs 0) [linkOf n (allG Q ts cs 0)]).filter fun y => keepN [linkOf n (allG Q ts cs 0)] y.1) [linkOf n (allG Q ts cs 0)] [allG Q ts cs 0] := by
  obtain ⟨W1, hW1⟩ : ∃ W1, w.alloc (.cells #[.int .i64 (Q.H : Nat), .int .i64 (Q.P : Nat), .int .i64 (Q.M : Nat), .int .u32 (Q.S : Nat)] 49) = W1 := ⟨_, rfl⟩
  have hb1 : Below w.heap.size w W1 := by rw [← hW1]; exact bl_alloc (Below.refl _ w) _
  have hs1 : W1.heap[w.heap.size]? = some (.cells #[.int .i64 (Q.H : Nat), .int .i64 (Q.P : Nat), .int .i64 (Q.M : Nat), .int .u32 (Q.S : Nat)] 49 (0, 0)) := by rw [← hW1]; exact heap_alloc_new _ _
  have k0 : W1.cell? ⟨w.heap.size, 0, none⟩ = some (.int .i64 (Q.H : Nat)) := by rw [cell_of_row _ _ _ _ _ _ hs1]; rfl
  have k1 : W1.cell? ⟨w.heap.size, 1, none⟩ = some (.int .i64 (Q.P : Nat)) := by rw [cell_of_row _ _ _ _ _ _ hs1]; rfl
  have k2 : W1.cell? ⟨w.heap.size, 2, none⟩ = some (.int .i64 (Q.M : Nat)) := by rw [cell_of_row _ _ _ _ _ _ hs1]; rfl
  have k3 : W1.cell? ⟨w.heap.size, 3, none⟩ = some (.int .u32 (Q.S : Nat)) := by rw [cell_of_row _ _ _ _ _ _ hs1]; rfl
  have hlen : S.commits.length = cs.length := by rw [← hcs, List.length_map]
  have hN := hg.few
  obtain ⟨la, lc, hlv, _⟩ := hI.idx.lv.sl
  have c1 : w.cell? ⟨x, 1, none⟩ = some (.slice la 8 lc) := by rw [cell_of_row _ _ _ _ _ _ hI.idx.box, ← hl8, ← hlv]; rfl
  have HCl := Lib.hid (fun W (hW : Below w.heap.size w W) => xReady (h.below hW) (hI.idx.below hW) Q hQ (by have := hI.l8; omega) (by omega) (by omega))
  have HCs := Lib.hid (show ∀ W, Below w.heap.size w W → Calls Tryz.prog 15 #[.pointer (some ⟨s, 0, none⟩)] W fun e w' => e = .returned (.int .i64 (cs.length : Nat)) ∧ w' = W from fun W hW => by
    have := sCommits (h.below hW)
    rwa [hlen] at this)
  have HLn := Lib.hid (show ∀ W, Below w.heap.size w W → Calls Tryz.prog 16 #[.pointer (some ⟨x, 0, none⟩)] W fun e w' => e = .returned (.int .i64 (totalL I.links : Nat)) ∧ Below W.heap.size W w' from fun W hW => xLen (hI.idx.below hW) (by omega) (by omega))
  have HCo := Lib.hid (show ∀ W, Below w.heap.size w W → Calls Tryz.prog 13 #[.pointer (some ⟨x, 0, none⟩), srcV s, .agg #[.int .i64 (Q.H : Nat), .int .i64 (Q.P : Nat), .int .i64 (Q.M : Nat), .int .u32 (Q.S : Nat)]] W fun e w' => e = .returned (.int .i64 0) ∧
      UpTo w w' x p F R ((layV v n (allG Q ts cs 0) [linkOf n (allG Q ts cs 0)]).filter fun y => keepN [linkOf n (allG Q ts cs 0)] y.1) [linkOf n (allG Q ts cs 0)] [allG Q ts cs 0] from fun W hW =>
    (xCompact (h.below hW) ts cs hts hcs hg (hI.below hW) Q hQ hQs (by omega) (by omega) hgood htext n hn hn1 hgc).mono fun e w' ⟨h1, h2⟩ => ⟨h1, h2.after hW⟩)
  have hd : ((cs.length : Int) == (totalL I.links : Int)) = false := by rw [beq_eq_false_iff_ne]; omega
  have hm1 := mCommits
  have HW1 := Lib.hid hW1; have HB1 := Lib.hid hb1
  clear h hts hcs hg hI hQ hQs ht hgood htext hn hgc hW1 hb1 hs1 hlen hN hlv
  generalize (allG Q ts cs 0) = g at *
  unfold srcV at HCl HCo ⊢
  go_enter Tryz.func12, Tryz.ntmps12
  go_wp2_with fail
  rw [HW1.out]
  go_wp2_with fail
  (with_reducible refine (HCl.out _ HB1.out).mono ?_)
  rintro e w2 ⟨rfl, hb⟩
  have HB12 := Lib.hid hb
  have HB2 := Lib.hid (bl_trans HB1.out hb)
  clear hb
  go_wp2_with fail
  (with_reducible refine (HCs.out _ HB2.out).mono ?_)
  rintro e w3 ⟨rfl, rfl⟩
  go_wp2_with fail
  (with_reducible refine (HLn.out _ HB2.out).mono ?_)
  rintro e w4 ⟨rfl, hb⟩
  have HB4 := Lib.hid (bl_trans HB2.out hb)
  have hb14 := bl_trans HB12.out hb
  have q0 := bl_cell hb14 k0; have q1 := bl_cell hb14 k1; have q2 := bl_cell hb14 k2; have q3 := bl_cell hb14 k3
  have x1 := bl_cell HB4.out c1
  clear hb hb14 k0 k1 k2 k3 c1
  go_wp2_with fail
  (with_reducible refine (HCo.out _ HB4.out).mono ?_)
  rintro e w5 ⟨rfl, hu⟩
  have HF := Lib.hid hu
  clear hu
  go_wp2
  go_ret
  exact ⟨rfl, HF.out⟩
end Go.Proofs.YtbhfbdcmamodcaaGreatDoor
namespace Go.Proofs.YtbhfbdcmamodcaaGreatDoor
open Go.RowKit Go.Maps TrMath FrMath PackMath SumMath
structure Parts (w : World) (s x p : Nat) (E : Foot) (ts : List Ents) (cs : List ComP) (T : List UInt8) (gs : List GraphP) (nx : Nat) (S : StoreS) (I : IndexS) (R F : Foot) (v : View) (q : Nat) : Prop where
  st : StoreAt w s S
  sp : S.disk = p
  tr : S.trees.map Prod.snd = ts
  cm : S.commits.map Prod.snd = cs
  idx : IndexAt w x I R
  dsk : I.disk = p
  gr : I.graphs.map GrE.g = gs
  disk : Disk w p F v q
  pend : q ≤ 900
  has : IdxDisk v T I.links gs
  a1 : Apart F (I.foot x R)
  a2 : Apart F (fun k => k ∈ S.own s)
  a3 : Apart (fun k => k ∈ S.own s) (I.foot x R)
  foot : ∀ j, E j ↔ F j ∨ j ∈ S.own s ∨ I.foot x R j
  l8 : I.links.length ≤ 8
  nxt : nextN I.links ≤ nx
  alone : (I.links.map (·.1)).Nodup
structure WholeAt (w : World) (B s x p : Nat) (E : Foot) (ts : List Ents) (cs : List ComP) (T : List UInt8) (gs : List GraphP) (k nx : Nat) : Prop where
  ex : ∃ S I R F v q, Parts w s x p E ts cs T gs nx S I R F v q
  layd : Layd ts cs gs k
  good : GoodS ts cs
  syn : SynOk w
  synB : nmLaysC172_ren.g 15 < B
  low : ∀ j, E j → B ≤ j
theorem apart_new {F F' G : Foot} {n : Nat} (h : Apart F G) (hs : ∀ k, F' k → F k ∨ n ≤ k) (hG : ∀ k, G k → k < n) : Apart F' G := fun k a b => by
  rcases hs k a with e | e
  · exact h k e b
  · have := hG k b; omega
section
variable {w w' : World} {B s x p : Nat} {E : Foot} {ts : List Ents} {cs : List ComP} {T : List UInt8} {gs : List GraphP} {k nx : Nat}
theorem WholeAt.lt (h : WholeAt w B s x p E ts cs T gs k nx) : ∀ j, E j → j < w.heap.size := fun j hj => by
  obtain ⟨S, I, R, F, v, q, P⟩ := h.ex
  rcases (P.foot j).1 hj with e | e | e
  · exact P.disk.lt j e
  · exact P.st.lt j e
  · exact P.idx.flt j e
theorem Parts.ok {S : StoreS} {I : IndexS} {R F : Foot} {v : View} {q : Nat} (P : Parts w s x p E ts cs T gs nx S I R F v q) (hl : Layd ts cs gs k) (hg : GoodS ts cs) (hsyn : SynOk w) (hB : nmLaysC172_ren.g 15 < B) (hlow : ∀ j, E j → B ≤ j) (hT : T.length ≤ 524288) (hc : cs.length ≤ 1200) : IdxOk w x p I R F v q where
  idx := P.idx
  dsk := P.dsk
  disk := P.disk
  apart := P.a1
  pend := P.pend
  len := P.has.small hT P.l8 fun g hgm => (hl.good hg hc g hgm).2
  few := by have := P.has.few; have := P.l8; omega
  t1 := P.has.tmp.1
  t2 := P.has.tmp.2
  names := P.has.ok
  l8 := P.l8
  l100 := P.has.l100
  syn := hsyn
  synF := fun e => by have := hlow _ ((P.foot _).2 (.inl e)); omega
  synx := fun e => by have := hlow x ((P.foot _).2 (.inr (.inr (.inl xown_x)))); omega
theorem syn_stays {G : Foot} (h : SynOk w) (hu : Upd G w w') (hB : nmLaysC172_ren.g 15 < B) (hlow : ∀ j, G j → B ≤ j) : SynOk w' :=
  h.stays (hu.block _ h.lt fun e => by have := hlow _ e; omega)
theorem WholeAt.stays (h : WholeAt w B s x p E ts cs T gs k nx) (hs : Stays E w w') (hsyn : SynOk w') : WholeAt w' B s x p E ts cs T gs k nx := by
  obtain ⟨S, I, R, F, v, q, P⟩ := h.ex
  exact ⟨⟨S, I, R, F, v, q, P.st.stays (hs.mono fun i e => (P.foot i).2 (.inr (.inl e))), P.sp, P.tr, P.cm, P.idx.stays (hs.mono fun i e => (P.foot i).2 (.inr (.inr e))), P.dsk, P.gr, P.disk.stays (hs.mono fun i e => (P.foot i).2 (.inl e)), P.pend, P.has, P.a1, P.a2, P.a3, P.foot, P.l8, P.nxt, P.alone⟩, h.layd, h.good, hsyn, h.synB, h.low⟩
theorem WholeAt.below (h : WholeAt w B s x p E ts cs T gs k nx) (hb : Below w.heap.size w w') : WholeAt w' B s x p E ts cs T gs k nx :=
  h.stays (Stays.of hb h.lt) (h.syn.stays (hb.block _ h.syn.lt))
theorem WholeAt.upd {G : Foot} (h : WholeAt w B s x p E ts cs T gs k nx) (hu : Upd G w w') (ha : Apart G E) (hG : ∀ j, G j → B ≤ j) : WholeAt w' B s x p E ts cs T gs k nx :=
  h.stays (hu.stays ha h.lt) (syn_stays h.syn hu h.synB hG)
theorem WholeAt.more (h : WholeAt w B s x p E ts cs T gs k nx) {n : Nat} (hn : nx ≤ n) : WholeAt w B s x p E ts cs T gs k n := by
  obtain ⟨S, I, R, F, v, q, P⟩ := h.ex
  exact ⟨⟨S, I, R, F, v, q, P.st, P.sp, P.tr, P.cm, P.idx, P.dsk, P.gr, P.disk, P.pend, P.has, P.a1, P.a2, P.a3, P.foot, P.l8, Nat.le_trans P.nxt hn, P.alone⟩, h.layd, h.good, h.syn, h.synB, h.low⟩
theorem Parts.added {S : StoreS} {I : IndexS} {R F : Foot} {vpre vpost : View} {q : Nat} {T' : List UInt8} {t : List Ents} {c : List ComP} (P : Parts w s x p E ts cs T gs nx S I R F (vpre ++ (logN, T) :: vpost) q) (hl : Layd ts cs gs k) (hg : GoodS ts cs) (hg' : GoodS (ts ++ t) (cs ++ c)) (hsyn : SynOk w) (hB : nmLaysC172_ren.g 15 < B) (hlow : ∀ j, E j → B ≤ j)
    (h : Added s p q F S (vpre ++ (logN, T') :: vpost) (ts ++ t) (cs ++ c) w w') : ∃ E', WholeAt w' B s x p E' (ts ++ t) (cs ++ c) T' gs k nx ∧ Grew E E' w w' := by
  obtain ⟨F', S', h1, h2, h3, h4, h5, h6, h7⟩ := h
  have hfl := P.idx.flt
  have hsub : ∀ j, (F' j ∨ j ∈ S'.own s) → (F j ∨ j ∈ S.own s) ∨ w.heap.size ≤ j := fun j hj => h7.sub j hj
  have ha : Apart (fun j => F' j ∨ j ∈ S'.own s) (I.foot x R) := apart_new (F := fun j => F j ∨ j ∈ S.own s) (fun j a b => a.elim (fun e => P.a1 j e b) (fun e => P.a3 j e b)) hsub hfl
  have hst : Stays (I.foot x R) w w' := h7.upd.stays (fun j a b => a.elim (fun e => P.a1 j e b) (fun e => P.a3 j e b)) hfl
  refine ⟨fun j => F' j ∨ j ∈ S'.own s ∨ I.foot x R j, ⟨⟨S', I, R, F', _, q, h2, h3, h4, h5, P.idx.stays hst, P.dsk, P.gr, h1, P.pend, P.has.grow, fun j a b => ha j (.inl a) b, h6, fun j a b => ha j (.inr a) b, fun j => Iff.rfl, P.l8, P.nxt, P.alone⟩, hl.mono hg t c, hg', ?_, hB, ?_⟩, ?_, ?_, ?_⟩
  · exact syn_stays hsyn h7.upd hB fun j hj => hlow j ((P.foot j).2 (hj.elim .inl fun e => .inr (.inl e)))
  · intro j hj
    have key : E j ∨ w.heap.size ≤ j := by
      rcases hj with e | e | e
      · exact (hsub j (.inl e)).imp (fun e => (P.foot j).2 (e.elim .inl fun e => .inr (.inl e))) id
      · exact (hsub j (.inr e)).imp (fun e => (P.foot j).2 (e.elim .inl fun e => .inr (.inl e))) id
      · exact .inl ((P.foot j).2 (.inr (.inr e)))
    rcases key with e | e
    · exact hlow j e
    · have h8 := hlow s ((P.foot s).2 (.inr (.inl sown_s)))
      have h9 := P.st.lt s sown_s
      omega
  · exact h7.upd.mono fun j hj => (P.foot j).2 (hj.elim .inl fun e => .inr (.inl e))
  · intro j hj
    rcases hj with e | e | e
    · exact (hsub j (.inl e)).imp (fun e => (P.foot j).2 (e.elim .inl fun e => .inr (.inl e))) id
    · exact (hsub j (.inr e)).imp (fun e => (P.foot j).2 (e.elim .inl fun e => .inr (.inl e))) id
    · exact .inl ((P.foot j).2 (.inr (.inr e)))
  · intro j hj
    rcases hj with e | e | e
    · exact h7.lt j (.inl e)
    · exact h7.lt j (.inr e)
    · exact Nat.lt_of_lt_of_le (hfl j e) h7.upd.size
theorem Parts.upTo {S : StoreS} {I : IndexS} {R F : Foot} {v v' : View} {q k' : Nat} {L' : List Link} {gs' : List GraphP} {nx' : Nat} (P : Parts w s x p E ts cs T gs nx S I R F v q) (hg : GoodS ts cs) (hsyn : SynOk w) (hB : nmLaysC172_ren.g 15 < B) (hlow : ∀ j, E j → B ≤ j)
    (h : UpTo w w' x p F R v' L' gs') (hhas : (v'.map Prod.fst).Nodup → IdxDisk v' T L' gs') (h8 : L'.length ≤ 8) (hnx : nextN L' ≤ nx') (hal : (L'.map (·.1)).Nodup) (hl : Layd ts cs gs' k') : ∃ E', WholeAt w' B s x p E' ts cs T gs' k' nx' ∧ Grew E E' w w' := by
  obtain ⟨F', I', R', q', h1, h2, h3, h4, h5, h6, h7, h8', h9, h10⟩ := h.out
  subst h5
  have hsl := P.st.lt
  have hxl : x < w.heap.size := P.idx.flt x (.inl xown_x)
  have hst : Stays (fun j => j ∈ S.own s) w w' := h.upd.stays (fun j a b => a.elim (fun e => P.a2 j e b) (fun e => P.a3 j b (by subst e; exact .inl xown_x))) hsl
  have hfs : ∀ j, I'.foot x R' j → I.foot x R j ∨ w.heap.size ≤ j := fun j hj => by
    rcases hj with e | e
    · rcases h10 j e with e | e
      · subst e; exact .inl (.inl xown_x)
      · exact .inr e
    · exact (h9 j e).imp .inr id
  have hsub : ∀ j, (F' j ∨ j ∈ S.own s ∨ I'.foot x R' j) → E j ∨ w.heap.size ≤ j := fun j hj => by
    rcases hj with e | e | e
    · exact (h8' j e).imp (fun e => (P.foot j).2 (.inl e)) id
    · exact .inl ((P.foot j).2 (.inr (.inl e)))
    · exact (hfs j e).imp (fun e => (P.foot j).2 (.inr (.inr e))) id
  have hup : Upd E w w' := h.upd.mono fun j hj => (P.foot j).2 (hj.elim .inl fun e => by subst e; exact .inr (.inr (.inl xown_x)))
  refine ⟨fun j => F' j ∨ j ∈ S.own s ∨ I'.foot x R' j, ⟨⟨S, I', R', F', v', q', P.st.stays hst, P.sp, P.tr, P.cm, h3, h4, h6, h1, by omega, hhas h1.nodup, h7, apart_new P.a2 h8' hsl, (apart_new P.a3.symm hfs hsl).symm, fun j => Iff.rfl, h8, hnx, hal⟩, hl, hg, ?_, hB, ?_⟩, hup, hsub, ?_⟩
  · exact syn_stays hsyn hup hB hlow
  · intro j hj
    rcases hsub j hj with e | e
    · exact hlow j e
    · have h8 := hlow s ((P.foot s).2 (.inr (.inl sown_s)))
      have h9 := P.st.lt s sown_s
      omega
  · intro j hj
    rcases hj with e | e | e
    · exact h1.lt j e
    · exact Nat.lt_of_lt_of_le (hsl j e) h.upd.size
    · exact h3.flt j e
theorem next_gt (L : List Link) : ∀ y ∈ L, y.1 < nextN L := by
  intro y hy
  obtain ⟨i, hi, rfl⟩ := List.mem_iff_getElem.1 hy
  have h1 := nextN_take hi
  have h2 : ∀ (A C : List Link), nextN A ≤ nextN (A ++ C) := fun A C => by
    unfold nextN
    rw [List.foldl_append]
    exact fold_next_le C _
  have h3 := h2 (L.take (i + 1)) (L.drop (i + 1))
  rw [List.take_append_drop] at h3
  omega
theorem next_push (L : List Link) (n : Nat) (g : GraphP) (h : nextN L ≤ n) : nextN (L ++ [linkOf n g]) = n + 1 := by
  unfold nextN at h ⊢
  rw [List.foldl_append]
  show max _ (n + 1) = n + 1
  omega
theorem next_one (n : Nat) (g : GraphP) : nextN [linkOf n g] = n + 1 := next_push [] n g (Nat.zero_le _)
end
theorem wAddCommit {w : World} {B s x p : Nat} {E : Foot} {ts : List Ents} {cs : List ComP} {T : List UInt8} {gs : List GraphP} {k nx : Nat} (h : WholeAt w B s x p E ts cs T gs k nx) (hT : T.length ≤ 524288) (hc : cs.length < 1200) (A : ComP) (a : Option Addr) (c : Nat) (hA : CellsAt w a (A.1.flatMap natV)) (hac : A.1.length ≤ c) (hcm : c ≤ maxLen) (hG : GoodC A) (hps : ∀ y ∈ A.1, y < cs.length) (ht : A.2 < ts.length)
    (hna : ∀ b off, a = some ⟨b, off, none⟩ → ¬ E b) (haz : ∀ b off, a = some ⟨b, off, none⟩ → b < w.heap.size) :
    Calls Tryz.prog 10 #[.pointer (some ⟨s, 0, none⟩), .agg #[.slice a A.1.length c, .int .i64 (A.2 : Nat)]] w fun e w' => e = .returned (.tuple #[.int .i64 (cs.length : Nat), .int .i64 0]) ∧ ∃ E', WholeAt w' B s x p E' ts (cs ++ [A]) (T ++ recB 2 (comB A)) gs k nx ∧ Grew E E' w w' := by
  obtain ⟨S, I, R, F, v, q, P⟩ := h.ex
  obtain ⟨vpre, vpost, rfl⟩ := P.has.split
  have ok := P.ok h.layd h.good h.syn h.synB h.low hT (by omega)
  have hlen : S.commits.length = cs.length := by rw [← P.cm, List.length_map]
  have hlent : S.trees.length = ts.length := by rw [← P.tr, List.length_map]
  have hg' : GoodS ts (cs ++ [A]) := ⟨h.good.trees, fun j c hj => by
    by_cases hjl : j < cs.length
    · rw [List.getElem?_append_left hjl] at hj
      exact h.good.commits j c hj
    · have hj2 : j = cs.length := by
        have := (List.getElem?_eq_some_iff.1 hj).1
        simp at this
        omega
      subst hj2
      rw [List.getElem?_append_right (Nat.le_refl _), Nat.sub_self] at hj
      cases hj
      exact ⟨hG, hps, ht⟩, by rw [List.length_append]; simp; omega, h.good.fewT⟩
  refine (sAddCommit s p q F S vpre vpost T A a c w P.disk P.st P.sp P.a2 ok.len (by have := ok.few; omega) hA hac hcm hG (by omega) (by rw [hlen]; exact hps) (by omega) (fun b off e => ⟨fun e2 => hna b off e ((P.foot b).2 (.inl e2)), fun e2 => hna b off e ((P.foot b).2 (.inr (.inl e2)))⟩) haz).mono fun e w' ⟨h1, h2⟩ => ?_
  rw [hlen] at h1
  rw [P.tr, P.cm] at h2
  refine ⟨h1, ?_⟩
  have := P.added (t := []) (c := [A]) h.layd h.good (by rw [List.append_nil]; exact hg') h.syn h.synB h.low (by rw [List.append_nil]; exact h2)
  rw [List.append_nil] at this
  exact this
end Go.Proofs.YtbhfbdcmamodcaaGreatDoor
namespace Go.Proofs.YtbhfbdcmamodcaaGreatDoor
open Go.RowKit Go.Maps TrMath FrMath PackMath SumMath
def usualP : SetP := ⟨3, 10, 2, 7⟩
theorem usual_ok : chkR (usualP.H : Nat) (usualP.P : Nat) (usualP.M : Nat) = 0 ∧ GoodSet usualP := ⟨by decide, ⟨by decide, by decide, by decide, by decide⟩⟩
theorem zUsual (w : World) : Calls Tryz.prog 14 #[] w fun e w' => e = .returned (.agg #[.int .i64 (usualP.H : Nat), .int .i64 (usualP.P : Nat), .int .i64 (usualP.M : Nat), .int .u32 (usualP.S : Nat)]) ∧ Below w.heap.size w w' := by
  have hb := bl_alloc (Below.refl _ w) (.cells #[.int .i64 3, .int .i64 10, .int .i64 2, .int .u32 7] 49)
  go_enter Tryz.func14, Tryz.ntmps14
  go_wp2
  exact bodyPost_ret (v := .agg #[.int .i64 3, .int .i64 10, .int .i64 2, .int .u32 7]) (by simp [results, Tryz.results14, go_sem]) rfl ⟨rfl, hb⟩
end Go.Proofs.YtbhfbdcmamodcaaGreatDoor
