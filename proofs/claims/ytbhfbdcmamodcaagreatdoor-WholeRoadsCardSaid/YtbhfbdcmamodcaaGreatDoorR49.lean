/- WholeGenerations, plain: what its own boxes hold, beside the whole; WholeGenerations: its closure that adds a commit; WholeRoads, plain: the trees, the commits and the log of some steps; WholeRoads: a compaction of nothing; what the disk has at the end; WholeRoads: two lists of names that are the same; WholeGenerations: what its calls leave; WholeRoads: the whole on a road, call by call; WholeRoads: what stands at a road's end; WholeGenerations, walked. -/
import Derived.Test.YtbhfbdcmamodcaaGreatDoorR47
import Derived.Test.YtbhfbdcmamodcaaGreatDoorR45
import Derived.Test.YtbhfbdcmamodcaaGreatDoorR48
import Derived.Test.YtbhfbdcmamodcaaGreatDoorR33
import Derived.Deep.AppendLies
import Derived.BigQuiet
import Derived.Deep.Cut
set_option linter.unusedVariables false
set_option linter.unusedSimpArgs false
namespace Go.Proofs.YtbhfbdcmamodcaaGreatDoor
open Go.RowKit Go.Maps TrMath FrMath PackMath SumMath
theorem disk_new (w : World) : Disk (((w.alloc (.map #[] 0)).alloc (.map #[] 0)).alloc (.cells #[.int .i64 (16777216 : Nat), .int .i64 0, .map (some w.heap.size), .map (some (w.heap.size + 1)), .slice none 0 0, .int .i64 0, .bool false] 73)) (w.heap.size + 2) (fun k => k = w.heap.size + 2 ∨ k = w.heap.size) [] 0 := by
  have hz : ((w.alloc (.map #[] 0)).alloc (.map #[] 0)).heap.size = w.heap.size + 2 := by simp
  refine ⟨⟨w.heap.size, .slice none 0 0, 0, []⟩, ⟨⟨0, w.heap.size + 1, ?_⟩, ⟨.map [], ?_, Reads.empty⟩, ⟨[], World.ownsRow_nil _ _ _ _⟩, by simp, by unfold DiskS.own; simp [Value.ownBlock]⟩, ?_, rfl, Nat.le_refl _⟩
  · have := heap_alloc_new ((w.alloc (.map #[] 0)).alloc (.map #[] 0)) (.cells #[.int .i64 (16777216 : Nat), .int .i64 0, .map (some w.heap.size), .map (some (w.heap.size + 1)), .slice none 0 0, .int .i64 0, .bool false] 73)
    rw [hz] at this
    exact this
  · refine map_stays (World.ownsMap_made w Tryz.prog 9 fileR) ?_
    rw [Below.heap_alloc _ _ _ (show w.heap.size < ((w.alloc (.map #[] 0)).alloc (.map #[] 0)).heap.size by rw [hz]; omega), Below.heap_alloc _ _ _ (show w.heap.size < (w.alloc (.map #[] 0)).heap.size by simp)]
  · funext k
    unfold DiskS.own
    simp [Value.ownBlock]
theorem goodS_nil : GoodS [] [] := ⟨by simp, fun k c h => by simp at h, by simp, by simp⟩
theorem whole_start {w : World} {B s x p : Nat} {S : StoreS} {F : Foot} (hD : Disk w p F [(logN, [])] 0) (hS : StoreAt w s S) (hp : S.disk = p) (ht : S.trees = []) (hc : S.commits = []) (hap : Apart F fun k => k ∈ S.own s) (hx : w.heap[x]? = some (.cells #[.pointer (some ⟨p, 0, none⟩), .slice none 0 0, .slice none 0 0] 97 (0, 0)))
    (hxF : ¬ F x) (hxS : x ∉ S.own s) (syn : SynOk w) (synB : nmLaysC172_ren.g 15 < B) (hF : ∀ j, F j → B ≤ j) (hSB : ∀ j ∈ S.own s, B ≤ j) (hxB : B ≤ x) : WholeAt w B s x p (fun j => F j ∨ j ∈ S.own s ∨ j = x) [] [] [] [] 0 0 := by
  have hown : ∀ j, (⟨p, .slice none 0 0, .slice none 0 0, [], []⟩ : IndexS).foot x (fun _ => False) j ↔ j = x := fun j => by
    unfold IndexS.foot IndexS.own
    simp [Value.ownBlock]
  refine ⟨⟨S, ⟨p, .slice none 0 0, .slice none 0 0, [], []⟩, fun _ => False, F, _, 0, hS, hp, by rw [ht]; rfl, by rw [hc]; rfl, ⟨hx, OwnX.nil _ _ _ _ _, OwnX.nil _ _ _ _ _, by simp, fun _ h => h.elim, by simp [IndexS.own, Value.ownBlock], fun _ _ h => h⟩, rfl, rfl, hD, by omega, ?_, fun j a b => hxF ((hown j).1 b ▸ a), hap, fun j a b => hxS ((hown j).1 b ▸ a), fun j => by rw [hown], by simp, by simp [nextN], by simp⟩, .nil, goodS_nil, syn, synB, fun j hj => ?_⟩
  · exact ⟨by simp, fun y hy => by rw [List.mem_singleton.1 hy]; exact .inl rfl, fun h => absurd rfl h, rfl, fun i h => by simp at h, by simp, by simp⟩
  · rcases hj with e | e | e
    · exact hF j e
    · exact hSB j e
    · omega
abbrev RowE := Value × List Nat
def rowL (y : RowE) : List Value := [y.1]
structure OG (W6 W : World) (B2 : Nat) (lv0 gv0 lv gv : Value) (L : List RowE) (G : List Nat) : Prop where
  upd : Upd (fun k => lv0.ownBlock = some k ∨ gv0.ownBlock = some k) W6 W
  l : OwnX 42 1 rowL W B2 lv L
  g : OwnX 3 1 natV W B2 gv G
  ne : ∀ k, lv.ownBlock = some k → gv.ownBlock ≠ some k
  la : ∀ k, lv.ownBlock = some k → lv0.ownBlock = some k ∨ W6.heap.size ≤ k
  ga : ∀ k, gv.ownBlock = some k → gv0.ownBlock = some k ∨ W6.heap.size ≤ k
section
variable {W6 W Y : World} {B2 : Nat} {lv0 gv0 lv gv : Value} {L : List RowE} {G : List Nat}
theorem OG.below (h : OG W6 W B2 lv0 gv0 lv gv L G) (hb : Below W.heap.size W Y) : OG W6 Y B2 lv0 gv0 lv gv L G :=
  ⟨h.upd.thenB hb, h.l.below hb, h.g.below hb, h.ne, h.la, h.ga⟩
theorem OG.alloc (h : OG W6 W B2 lv0 gv0 lv gv L G) (o : Obj) : OG W6 (W.alloc o) B2 lv0 gv0 lv gv L G := h.below (bl_alloc (Below.refl _ _) o)
theorem OG.drew (h : OG W6 W B2 lv0 gv0 lv gv L G) : OG W6 W.drew B2 lv0 gv0 lv gv L G := h.below (bl_drew (Below.refl _ _))
theorem OG.pushL {gg cap : Nat} {y : RowE} (h : OG W6 W B2 lv0 gv0 lv gv L G) (hown : Y.ownsRow B2 42 1 (.slice (some ⟨gg, 0, none⟩) (L.length + 1) cap) (L.length + 1) (L.flatMap rowL ++ rowL y)) (hg : W.grownBy Y lv.ownBlock) (hat : lv.ownBlock = some gg ∨ gg = W.heap.size) :
    OG W6 Y B2 lv0 gv0 (.slice (some ⟨gg, 0, none⟩) (L.length + 1) cap) gv (L ++ [y]) G := by
  have hz := h.upd.size
  have key : ∀ k, (Value.slice (some ⟨gg, 0, none⟩) (L.length + 1) cap).ownBlock = some k → k = gg := fun k e => by simp [Value.ownBlock] at e; omega
  refine ⟨h.upd.grown hg fun k e => (h.la k e).imp .inl id, OwnX.push (enc := rowL) (m := [y]) hown rfl (by simp), h.g.stays fun k e => hg.block k (h.g.lt k e).2 (fun e2 => h.ne k e2.symm e), fun k e e2 => ?_, fun k e => ?_, h.ga⟩
  · obtain rfl := key k e
    rcases hat with h1 | h1
    · exact h.ne _ h1 e2
    · have := (h.g.lt _ e2).2; omega
  · obtain rfl := key k e
    rcases hat with h1 | h1
    · exact h.la _ h1
    · exact .inr (by omega)
theorem OG.pushG {gg cap : Nat} {y : Nat} (h : OG W6 W B2 lv0 gv0 lv gv L G) (hown : Y.ownsRow B2 3 1 (.slice (some ⟨gg, 0, none⟩) (G.length + 1) cap) (G.length + 1) (G.flatMap natV ++ natV y)) (hg : W.grownBy Y gv.ownBlock) (hat : gv.ownBlock = some gg ∨ gg = W.heap.size) :
    OG W6 Y B2 lv0 gv0 lv (.slice (some ⟨gg, 0, none⟩) (G.length + 1) cap) L (G ++ [y]) := by
  have hz := h.upd.size
  have key : ∀ k, (Value.slice (some ⟨gg, 0, none⟩) (G.length + 1) cap).ownBlock = some k → k = gg := fun k e => by simp [Value.ownBlock] at e; omega
  refine ⟨h.upd.grown hg fun k e => (h.ga k e).imp .inr id, h.l.stays fun k e => hg.block k (h.l.lt k e).2 (fun e2 => h.ne k e e2.symm), OwnX.push (enc := natV) (m := [y]) hown rfl (by simp), fun k e e2 => ?_, h.la, fun k e => ?_⟩
  · obtain rfl := key k e2
    rcases hat with h1 | h1
    · exact h.ne _ e h1
    · have := (h.l.lt _ e).2; omega
  · obtain rfl := key k e
    rcases hat with h1 | h1
    · exact h.ga _ h1
    · exact .inr (by omega)
end
structure LawP (W0 w : World) (s x p A1 A2 A3 : Nat) (cs : List ComP) (k nx : Nat) (E H : Foot) (T : List UInt8) (gs : List GraphP) (gv nv : Value) (L : List RowE) : Prop where
  whole : WholeAt w W0.heap.size s x p E [[]] cs T gs k nx
  b1 : w.heap[A1]? = some (.cells #[gv] 58 (0, 0))
  b2 : w.heap[A2]? = some (.cells #[nv] 42 (0, 0))
  b3 : w.heap[A3]? = some (.cells #[.pointer (some ⟨s, 0, none⟩)] 29 (0, 0))
  g : OwnX 42 1 rowL w W0.heap.size gv L
  gL : L.map Prod.snd = cs.map Prod.fst
  rows : ∀ y ∈ L, ∃ a c, y.1 = .slice a y.2.length c ∧ Lasts H w fun z => CellsAt z a (y.2.flatMap natV)
  n : OwnX 3 1 natV w W0.heap.size nv (gensN cs cs.length)
  bel : Below W0.heap.size W0 w
  own : (A1 :: A2 :: A3 :: (gv.ownBlock.toList ++ nv.ownBlock.toList)).Nodup
  low : ∀ j ∈ A1 :: A2 :: A3 :: (gv.ownBlock.toList ++ nv.ownBlock.toList), W0.heap.size ≤ j ∧ j < w.heap.size ∧ ¬ E j ∧ ¬ H j
  hlow : ∀ j, H j → W0.heap.size ≤ j ∧ j < w.heap.size ∧ ¬ E j
  tl : T.length ≤ 1000 + 100 * cs.length
  tr : ∀ c ∈ cs, c.2 = 0
def LawG (W0 w : World) (s x p A1 A2 A3 : Nat) (cs : List ComP) (k nx : Nat) : Prop := ∃ E H T gs gv nv L, LawP W0 w s x p A1 A2 A3 cs k nx E H T gs gv nv L
section
variable {W0 w w' : World} {s x x' p A1 A2 A3 : Nat} {cs : List ComP} {k k' nx nx' : Nat} {E E' H : Foot} {T : List UInt8} {gs gs' : List GraphP} {gv nv : Value} {L : List RowE}
theorem LawP.step (P : LawP W0 w s x p A1 A2 A3 cs k nx E H T gs gv nv L) (h : WholeAt w' W0.heap.size s x' p E' [[]] cs T gs' k' nx') (hg : Grew E E' w w') : LawP W0 w' s x' p A1 A2 A3 cs k' nx' E' H T gs' gv nv L := by
  have hst : ∀ j ∈ A1 :: A2 :: A3 :: (gv.ownBlock.toList ++ nv.ownBlock.toList), w'.heap[j]? = w.heap[j]? := fun j hj => by
    obtain ⟨_, h2, h3, _⟩ := P.low j hj
    exact hg.upd.block j h2 h3
  have hz := hg.upd.size
  have hE : ∀ j, j < w.heap.size → ¬ E j → ¬ E' j := fun j h1 h2 e => by
    rcases hg.sub j e with e | e
    · exact h2 e
    · omega
  have hH : Stays H w w' := ⟨fun j hj => by obtain ⟨_, h2, h3⟩ := P.hlow j hj; exact hg.upd.block j h2 h3, hz⟩
  have hB : W0.heap.size ≤ w.heap.size := P.bel.size
  refine ⟨h, (hst A1 (by simp)).trans P.b1, (hst A2 (by simp)).trans P.b2, (hst A3 (by simp)).trans P.b3, P.g.stays fun j e => hst j (by simp [e]), P.gL, fun y hy => ?_, P.n.stays fun j e => hst j (by simp [e]), P.bel.trans (hg.upd.below P.whole.low hB), P.own, fun j hj => ?_, fun j hj => ?_, P.tl, P.tr⟩
  · obtain ⟨a, c, h1, h2⟩ := P.rows y hy
    exact ⟨a, c, h1, h2.stays hH⟩
  · obtain ⟨h1, h2, h3, h4⟩ := P.low j hj
    exact ⟨h1, by omega, hE j h2 h3, h4⟩
  · obtain ⟨h1, h2, h3⟩ := P.hlow j hj
    exact ⟨h1, by omega, hE j h2 h3⟩
theorem LawP.below (P : LawP W0 w s x p A1 A2 A3 cs k nx E H T gs gv nv L) (hb : Below w.heap.size w w') : LawP W0 w' s x p A1 A2 A3 cs k nx E H T gs gv nv L :=
  P.step (P.whole.below hb) (Grew.same hb P.whole.lt)
theorem LawP.added {w7 w8 : World} {a : Option Addr} {c : Nat} {l : List Nat} {Hl : Foot} {gv' nv' : Value} {T' : List UInt8} (P : LawP W0 w s x p A1 A2 A3 cs k nx E H T gs gv nv L) (hu : Upd (fun j => j = A1 ∨ j = A2 ∨ gv.ownBlock = some j ∨ nv.ownBlock = some j) w w7)
    (b1 : w7.heap[A1]? = some (.cells #[gv'] 58 (0, 0))) (b2 : w7.heap[A2]? = some (.cells #[nv'] 42 (0, 0))) (g : OwnX 42 1 rowL w7 W0.heap.size gv' (L ++ [(.slice a l.length c, l)])) (n : OwnX 3 1 natV w7 W0.heap.size nv' (gensN cs cs.length ++ [nextG (l.map fun p => (gensN cs cs.length).getD p 0)]))
    (ga : ∀ j, gv'.ownBlock = some j → gv.ownBlock = some j ∨ w.heap.size ≤ j) (na : ∀ j, nv'.ownBlock = some j → nv.ownBlock = some j ∨ w.heap.size ≤ j) (ne : ∀ j, gv'.ownBlock = some j → nv'.ownBlock ≠ some j)
    (hl : Lasts Hl w fun z => CellsAt z a (l.flatMap natV)) (hHl : ∀ j, Hl j → W0.heap.size ≤ j ∧ ¬ E j ∧ j ∉ A1 :: A2 :: A3 :: (gv.ownBlock.toList ++ nv.ownBlock.toList))
    (h8 : WholeAt w8 W0.heap.size s x p E' [[]] (cs ++ [(l, 0)]) T' gs k nx) (hg8 : Grew E E' w7 w8) (hT : T'.length ≤ T.length + 100) : LawG W0 w8 s x p A1 A2 A3 (cs ++ [(l, 0)]) k nx := by
  have hB : W0.heap.size ≤ w.heap.size := P.bel.size
  have hz7 := hu.size
  have hz8 := hg8.upd.size
  have hgo : ∀ j, gv.ownBlock = some j → j ∈ A1 :: A2 :: A3 :: (gv.ownBlock.toList ++ nv.ownBlock.toList) := fun j e => by simp [e]
  have hno : ∀ j, nv.ownBlock = some j → j ∈ A1 :: A2 :: A3 :: (gv.ownBlock.toList ++ nv.ownBlock.toList) := fun j e => by simp [e]
  have lA : ∀ j ∈ A1 :: A2 :: A3 :: (gv'.ownBlock.toList ++ nv'.ownBlock.toList), j ∈ A1 :: A2 :: A3 :: (gv.ownBlock.toList ++ nv.ownBlock.toList) ∨ w.heap.size ≤ j := fun j hj => by
    simp only [List.mem_cons, List.mem_append, Option.mem_toList] at hj
    rcases hj with e | e | e | e | e
    · exact .inl (by simp [e])
    · exact .inl (by simp [e])
    · exact .inl (by simp [e])
    · exact (ga j e).imp (hgo j) id
    · exact (na j e).imp (hno j) id
  have hE7 : ∀ j, E j → j < w.heap.size := P.whole.lt
  have n8 : ∀ j, j < w7.heap.size → ¬ E j → w8.heap[j]? = w7.heap[j]? ∧ ¬ E' j := fun j h1 h2 => ⟨hg8.upd.block j h1 h2, fun e => by
    rcases hg8.sub j e with e | e
    · exact h2 e
    · omega⟩
  have lE : ∀ j ∈ A1 :: A2 :: A3 :: (gv'.ownBlock.toList ++ nv'.ownBlock.toList), ¬ E j := fun j hj e => by
    rcases lA j hj with h1 | h1
    · exact (P.low j h1).2.2.1 e
    · have := hE7 j e; omega
  have l7 : ∀ j ∈ A1 :: A2 :: A3 :: (gv'.ownBlock.toList ++ nv'.ownBlock.toList), j < w7.heap.size := fun j hj => by
    simp only [List.mem_cons, List.mem_append, Option.mem_toList] at hj
    rcases hj with e | e | e | e | e
    · have := (P.low A1 (by simp)).2.1; omega
    · have := (P.low A2 (by simp)).2.1; omega
    · have := (P.low A3 (by simp)).2.1; omega
    · exact (g.lt j e).2
    · exact (n.lt j e).2
  have hHst : ∀ j, j < w.heap.size → j ∉ A1 :: A2 :: A3 :: (gv.ownBlock.toList ++ nv.ownBlock.toList) → w7.heap[j]? = w.heap[j]? := fun j h1 h2 => hu.block j h1 fun e => h2 (by
    rcases e with e | e | e | e
    · simp [e]
    · simp [e]
    · exact hgo j e
    · exact hno j e)
  have hHo : ∀ j, H j → j ∉ A1 :: A2 :: A3 :: (gv.ownBlock.toList ++ nv.ownBlock.toList) := fun j hj hm => (P.low j hm).2.2.2 hj
  have hsH : Stays H w w8 := ⟨fun j hj => by
    obtain ⟨_, h2, h3⟩ := P.hlow j hj
    rw [(n8 j (by omega) h3).1, hHst j h2 (hHo j hj)], by omega⟩
  have hsl : Stays Hl w w8 := ⟨fun j hj => by
    obtain ⟨_, h2, h3⟩ := hHl j hj
    rw [(n8 j (by have := hl.1 j hj; omega) h2).1, hHst j (hl.1 j hj) h3], by omega⟩
  have hor : ∀ j, (H.or Hl) j → j < w8.heap.size := fun j hj => by
    rcases hj with hj | hj
    · have := (P.hlow j hj).2.1; omega
    · have := hl.1 j hj; omega
  have hA3 : w7.heap[A3]? = w.heap[A3]? := by
    obtain ⟨_, h2, _, _⟩ := P.low A3 (by simp)
    have hnd := P.own
    refine hu.block A3 h2 fun e => ?_
    simp only [List.nodup_cons, List.mem_cons, List.mem_append, Option.mem_toList, not_or] at hnd
    rcases e with e | e | e | e
    · exact hnd.1.2.1 e.symm
    · exact hnd.2.1.1 e.symm
    · exact hnd.2.2.1.1 e
    · exact hnd.2.2.1.2 e
  have hlen : gensN (cs ++ [(l, 0)]) (cs ++ [(l, 0)]).length = gensN cs cs.length ++ [nextG (l.map fun p => (gensN cs cs.length).getD p 0)] := by
    rw [List.length_append, List.length_singleton, gensN, gensN_mono cs _ _ (Nat.le_refl _)]
    have e : (cs ++ [(l, 0)]).getD cs.length ([], 0) = (l, 0) := by simp
    rw [e]
  refine ⟨E', H.or Hl, T', gs, gv', nv', L ++ [(.slice a l.length c, l)], h8, ((n8 A1 (l7 A1 (by simp)) (lE A1 (by simp))).1).trans b1, ((n8 A2 (l7 A2 (by simp)) (lE A2 (by simp))).1).trans b2, ((n8 A3 (l7 A3 (by simp)) (lE A3 (by simp))).1).trans (hA3.trans P.b3), g.stays fun j e => (n8 j (g.lt j e).2 (lE j (by simp [e]))).1, ?_, fun y hy => ?_, ?_, ?_, ?_, fun j hj => ?_, fun j hj => ?_, ?_, ?_⟩
  · rw [List.map_append, List.map_append, P.gL]; rfl
  · rcases List.mem_append.1 hy with hy | hy
    · obtain ⟨a', c', k1, k2⟩ := P.rows y hy
      exact ⟨a', c', k1, (k2.stays hsH).mono (fun j hj => .inl hj) hor⟩
    · rw [List.mem_singleton.1 hy]
      exact ⟨a, c, rfl, (hl.stays hsl).mono (fun j hj => .inr hj) hor⟩
  · rw [hlen]
    exact n.stays fun j e => (n8 j (n.lt j e).2 (lE j (by simp [e]))).1
  · exact (P.bel.trans (hu.below (fun j e => by
      rcases e with rfl | rfl | e | e
      · exact (P.low _ (by simp)).1
      · exact (P.low _ (by simp)).1
      · exact (P.low j (hgo j e)).1
      · exact (P.low j (hno j e)).1) hB)).trans (hg8.upd.below P.whole.low (by omega))
  · have hnd := P.own
    simp only [List.nodup_cons, List.mem_cons, List.mem_append, Option.mem_toList, not_or] at hnd ⊢
    obtain ⟨⟨d1, d2, d3, d4⟩, ⟨d5, d6, d7⟩, ⟨d8, d9⟩, _⟩ := hnd
    have hA1 := (P.low A1 (by simp)).2.1; have hA2 := (P.low A2 (by simp)).2.1; have hA3 := (P.low A3 (by simp)).2.1
    have fg : ∀ A, A < w.heap.size → gv.ownBlock ≠ some A → gv'.ownBlock ≠ some A := fun A h1 h2 e => by
      rcases ga A e with e2 | e2
      · exact h2 e2
      · omega
    have fn : ∀ A, A < w.heap.size → nv.ownBlock ≠ some A → nv'.ownBlock ≠ some A := fun A h1 h2 e => by
      rcases na A e with e2 | e2
      · exact h2 e2
      · omega
    refine ⟨⟨d1, d2, fg A1 hA1 d3, fn A1 hA1 d4⟩, ⟨d5, fg A2 hA2 d6, fn A2 hA2 d7⟩, ⟨fg A3 hA3 d8, fn A3 hA3 d9⟩, ?_⟩
    rw [List.nodup_append]
    refine ⟨by cases gv'.ownBlock <;> simp, by cases nv'.ownBlock <;> simp, fun a ha b hb e => ?_⟩
    subst e
    exact ne a (Option.mem_toList.1 ha) (Option.mem_toList.1 hb)
  · refine ⟨?_, by have := l7 j hj; omega, (n8 j (l7 j hj) (lE j hj)).2, fun e => ?_⟩
    · rcases lA j hj with h1 | h1
      · exact (P.low j h1).1
      · omega
    · rcases lA j hj with h1 | h1
      · rcases e with e | e
        · exact (P.low j h1).2.2.2 e
        · exact (hHl j e).2.2 h1
      · rcases e with e | e
        · have := (P.hlow j e).2.1; omega
        · have := hl.1 j e; omega
  · rcases hj with e | e
    · obtain ⟨h1, h2, h3⟩ := P.hlow j e
      exact ⟨h1, by omega, (n8 j (by omega) h3).2⟩
    · obtain ⟨h1, h2, _⟩ := hHl j e
      have h4 := hl.1 j e
      exact ⟨h1, by omega, (n8 j (by omega) h2).2⟩
  · rw [List.length_append]
    have := P.tl
    simp
    omega
  · intro c hc
    rcases List.mem_append.1 hc with hc | hc
    · exact P.tr c hc
    · rw [List.mem_singleton.1 hc]
end
end Go.Proofs.YtbhfbdcmamodcaaGreatDoor
namespace Go.Proofs.YtbhfbdcmamodcaaGreatDoor
open Go.RowKit Go.Maps TrMath FrMath PackMath SumMath
theorem rec_len (k : Nat) (body : List UInt8) (hk : 1 ≤ k ∧ k ≤ 255) (hb : body.length ≤ 1048576) : (recB k body).length = body.length + 9 := by
  have hs : (⟨body.toArray⟩ : ByteArray).size = body.length := sz body
  obtain ⟨fr1, fr2⟩ := fr_fine (k := (k : Int)) (body := ⟨body.toArray⟩) (by omega) (by omega)
  unfold recB
  rw [fr2, encF_len, hs]
end Go.Proofs.YtbhfbdcmamodcaaGreatDoor
namespace Go.Proofs.YtbhfbdcmamodcaaGreatDoor
open Go.RowKit Go.Maps TrMath FrMath PackMath SumMath
def goodF (y : StepP) : Ents := goodL (y.tree.take 30)
def natsF (y : StepP) : List Nat := y.pars.map Int.toNat
def comF (y : StepP) (i : Nat) : ComP := (parF i (natsF y), i)
def stepZ : StepP := ⟨.slice none 0 0, .slice none 0 0, [], [], 0, 0, 0⟩
def treesR (steps : List StepP) : Nat → List Ents
  | 0 => []
  | n + 1 => treesR steps n ++ [goodF (steps.getD n stepZ)]
def comsR (steps : List StepP) : Nat → List ComP
  | 0 => []
  | n + 1 => comsR steps n ++ [comF (steps.getD n stepZ) n]
def logR (steps : List StepP) : Nat → List UInt8
  | 0 => []
  | n + 1 => logR steps n ++ recB 1 (treeB (goodF (steps.getD n stepZ))) ++ recB 2 (comB (comF (steps.getD n stepZ) n))
theorem treesR_len (steps : List StepP) : ∀ n, (treesR steps n).length = n
  | 0 => rfl
  | n + 1 => by rw [treesR, List.length_append, treesR_len steps n]; rfl
theorem comsR_len (steps : List StepP) : ∀ n, (comsR steps n).length = n
  | 0 => rfl
  | n + 1 => by rw [comsR, List.length_append, comsR_len steps n]; rfl
theorem goodF_len (y : StepP) : (goodF y).length ≤ 30 := by
  have h1 := foldP_len [] (cutL (y.tree.take 30))
  have h2 : (cutL (y.tree.take 30)).length ≤ 30 := by
    unfold cutL
    rw [List.length_map, List.length_take, List.length_take]
    omega
  unfold goodF goodL
  simp at h1
  omega
theorem goodF_ok {y : StepP} (h : Words y.tree) : GoodT (goodF y) :=
  ⟨good_good _, good_words fun e he => h e (List.mem_of_mem_take he), by have := goodF_len y; omega⟩
theorem comF_ok (y : StepP) (i : Nat) (hi : i < 65536) : GoodC (comF y i) := by
  obtain ⟨h1, h2, h3⟩ := parF_ok i (natsF y)
  exact ⟨h1, fun p hp => by have := h2 p hp; omega, h3, hi⟩
theorem treeB_small (y : StepP) : (treeB (goodF y)).length ≤ 7832 := by
  have h1 := encGo_len (goodF y) (good_good _).short (goodF y).length
  have h2 := goodF_len y
  unfold treeB
  omega
theorem logR_len (steps : List StepP) : ∀ n, n ≤ 65536 → (logR steps n).length ≤ n * 7930
  | 0, _ => by simp [logR]
  | n + 1, h => by
    have h0 := logR_len steps n (by omega)
    have h1 := treeB_small (steps.getD n stepZ)
    have h2 := comB_len (comF_ok (steps.getD n stepZ) n (by omega))
    rw [logR, List.length_append, List.length_append, rec_len 1 _ (by omega) (by omega), rec_len 2 _ (by omega) (by omega)]
    omega
def setR (h : Nat) : SetP := ⟨h, 7, 5, 0⟩
theorem setR_ok {h : Nat} (h1 : 1 ≤ h) (h2 : h ≤ 9) : OkQ (setR h) := by
  refine ⟨?_, ⟨⟨h1, by show h ≤ 16; omega⟩, by show 1 ≤ 7 ∧ 7 ≤ 64; decide, by show 5 ≤ 512; decide, by show 0 < 4294967296; decide⟩, by show 5 * 7 ≤ 64; decide⟩
  unfold chkR
  rw [if_neg]
  show ¬ ((h : Int) < 1 ∨ 16 < (h : Int) ∨ ((7 : Nat) : Int) < 1 ∨ 64 < ((7 : Nat) : Int) ∨ ((5 : Nat) : Int) < 0 ∨ 512 < ((5 : Nat) : Int))
  omega
end Go.Proofs.YtbhfbdcmamodcaaGreatDoor
namespace Go.Proofs.YtbhfbdcmamodcaaGreatDoor
open Go.RowKit Go.Maps TrMath FrMath PackMath SumMath
set_option maxHeartbeats 4000000 in
set_option maxRecDepth 100000 in
theorem xCompactNone {w : World} {s x : Nat} {S : StoreS} {I : IndexS} {R : Foot} (h : StoreAt w s S) (hI : IndexAt w x I R) (Q : SetP) (hQ : chkR Q.H Q.P Q.M = 0) (hl : I.links.length ≤ 1000) (hN : S.commits.length = 0) (ht : totalL I.links = 0) :
    Calls Tryz.prog 13 #[.pointer (some ⟨x, 0, none⟩), srcV s, .agg #[.int .i64 (Q.H : Nat), .int .i64 (Q.P : Nat), .int .i64 (Q.M : Nat), .int .u32 (Q.S : Nat)]] w fun e w' => e = .returned (.int .i64 0) ∧ Below w.heap.size w w' := by
  obtain ⟨W1, hW1⟩ : ∃ W1, w.alloc (.cells #[.int .i64 (Q.H : Nat), .int .i64 (Q.P : Nat), .int .i64 (Q.M : Nat), .int .u32 (Q.S : Nat)] 49) = W1 := ⟨_, rfl⟩
  have hb1 : Below w.heap.size w W1 := by rw [← hW1]; exact bl_alloc (Below.refl _ w) _
  have hs1 : W1.heap[w.heap.size]? = some (.cells #[.int .i64 (Q.H : Nat), .int .i64 (Q.P : Nat), .int .i64 (Q.M : Nat), .int .u32 (Q.S : Nat)] 49 (0, 0)) := by rw [← hW1]; exact heap_alloc_new _ _
  have k0 : W1.cell? ⟨w.heap.size, 0, none⟩ = some (.int .i64 (Q.H : Nat)) := by rw [cell_of_row _ _ _ _ _ _ hs1]; rfl
  have k1 : W1.cell? ⟨w.heap.size, 1, none⟩ = some (.int .i64 (Q.P : Nat)) := by rw [cell_of_row _ _ _ _ _ _ hs1]; rfl
  have k2 : W1.cell? ⟨w.heap.size, 2, none⟩ = some (.int .i64 (Q.M : Nat)) := by rw [cell_of_row _ _ _ _ _ _ hs1]; rfl
  have k3 : W1.cell? ⟨w.heap.size, 3, none⟩ = some (.int .u32 (Q.S : Nat)) := by rw [cell_of_row _ _ _ _ _ _ hs1]; rfl
  have HCl := Lib.hid (fun W (hW : Below w.heap.size w W) => xReady (h.below hW) (hI.below hW) Q hQ hl (by omega) (by omega))
  have HCs := Lib.hid (show ∀ W, Below w.heap.size w W → Calls Tryz.prog 15 #[.pointer (some ⟨s, 0, none⟩)] W fun e w' => e = .returned (.int .i64 0) ∧ w' = W from fun W hW => by
    have := sCommits (h.below hW)
    rw [hN] at this
    exact this)
  have hm1 := mCommits
  have HW1 := Lib.hid hW1; have HB1 := Lib.hid hb1
  clear h hI hW1 hb1 hs1 hQ ht hN
  unfold srcV at HCl ⊢
  go_enter Tryz.func13, Tryz.ntmps13
  go_wp2_with fail
  rw [HW1.out]
  go_wp2_with fail
  (with_reducible refine (HCl.out _ HB1.out).mono ?_)
  rintro e w2 ⟨rfl, hb⟩
  have HB2 := Lib.hid (bl_trans HB1.out hb)
  clear hb
  go_wp2_with fail
  (with_reducible refine (HCs.out _ HB2.out).mono ?_)
  rintro e w3 ⟨rfl, rfl⟩
  go_wp2
  go_ret
  exact ⟨rfl, HB2.out⟩
section
variable {w w' : World} {B s x p : Nat} {E : Foot} {ts : List Ents} {cs : List ComP} {T : List UInt8} {gs : List GraphP} {k nx : Nat}
theorem wCompactNone (h : WholeAt w B s x p E ts [] T gs k nx) {Q : SetP} (hQ : OkQ Q) : Calls Tryz.prog 13 #[.pointer (some ⟨x, 0, none⟩), srcV s, .agg #[.int .i64 (Q.H : Nat), .int .i64 (Q.P : Nat), .int .i64 (Q.M : Nat), .int .u32 (Q.S : Nat)]] w fun e w' => e = .returned (.int .i64 0) ∧ Below w.heap.size w w' := by
  obtain ⟨S, I, R, F, v, q, P⟩ := h.ex
  have hk := P.total h.layd
  have hkl := h.layd.le
  simp at hkl
  exact xCompactNone P.st P.idx Q hQ.chk (by have := P.l8; omega) (by rw [← List.length_map (f := Prod.snd), P.cm]; rfl) (by omega)
theorem wFinal {g : GraphP} (h : WholeAt w B s x p E ts cs T [g] k nx) : ∃ F v q n, Disk w p F v q ∧ (∀ j, F j → E j) ∧ v.length = 3 ∧ (logN, T) ∈ v ∧ (chainN ∈ v.map Prod.fst) ∧ n < 100 ∧ (nameG n, graphB g) ∈ v ∧ (∀ y ∈ v.map Prod.fst, y = logN ∨ y = chainN ∨ y = nameG n) := by
  obtain ⟨S, I, R, F, v, q, P⟩ := h.ex
  have hlen := P.has.len
  have h1 : I.links.length = 1 := by rw [hlen]; rfl
  obtain ⟨l, hl⟩ : ∃ l, I.links = [l] := List.length_eq_one_iff.1 h1
  have hfi := P.has.files 0 (by omega) (by simp)
  have hl100 := P.has.l100 l (by rw [hl]; simp)
  have hl0 : I.links[0]'(by omega) = l := by simp [hl]
  rw [hl0] at hfi
  have hch := P.has.chain (by rw [hl]; simp)
  have hnames : ∀ y ∈ v.map Prod.fst, y = logN ∨ y = chainN ∨ y = nameG l.1 := fun y hy => by
    obtain ⟨z, hz, rfl⟩ := List.mem_map.1 hy
    rcases P.has.names z hz with e | ⟨_, e⟩ | ⟨l', hl', e⟩
    · exact .inl e
    · exact .inr (.inl e)
    · rw [hl] at hl'
      rw [List.mem_singleton.1 hl'] at e
      exact .inr (.inr e)
  have hm1 : logN ∈ v.map Prod.fst := List.mem_map.2 ⟨_, P.has.log, rfl⟩
  have hm2 : chainN ∈ v.map Prod.fst := List.mem_map.2 ⟨_, hch, rfl⟩
  have hm3 : nameG l.1 ∈ v.map Prod.fst := List.mem_map.2 ⟨_, hfi.1, rfl⟩
  have hv3 : v.length = 3 := by
    have a1 := P.has.few
    have a2 := nodup_le [logN, chainN, nameG l.1] (v.map Prod.fst) (by
      have h4 := (name_all hl100).2.2.2
      simp only [List.nodup_cons, List.mem_cons, List.not_mem_nil, or_false, not_or, List.nodup_nil, not_false_eq_true, and_true]
      exact ⟨⟨fun e => chain_log e.symm, fun e => h4.2 e.symm⟩, fun e => h4.1 e.symm⟩) (fun y hy => by
      simp only [List.mem_cons, List.not_mem_nil, or_false] at hy
      rcases hy with rfl | rfl | rfl <;> assumption)
    simp at a2
    omega
  exact ⟨F, v, q, l.1, P.disk, fun j hj => (P.foot j).2 (.inl hj), hv3, P.has.log, hm2, hl100, hfi.1, hnames⟩
theorem wFinal0 (h : WholeAt w B s x p E ts cs T [] k nx) : ∃ F v q, Disk w p F v q ∧ (∀ j, F j → E j) ∧ v = [(logN, T)] := by
  obtain ⟨S, I, R, F, v, q, P⟩ := h.ex
  have h0 : I.links = [] := List.length_eq_zero_iff.1 (by rw [P.has.len]; rfl)
  have hnm : ∀ y ∈ v, y.1 = logN := fun y hy => by
    rcases P.has.names y hy with e | ⟨e, _⟩ | ⟨l, hl, _⟩
    · exact e
    · exact absurd h0 e
    · rw [h0] at hl; cases hl
  refine ⟨F, v, q, P.disk, fun j hj => (P.foot j).2 (.inl hj), ?_⟩
  have hnd := P.has.nodup
  have hlog := P.has.log
  cases v with
  | nil => cases hlog
  | cons a r =>
    cases r with
    | nil => rw [List.mem_singleton] at hlog; rw [hlog]
    | cons b r =>
      have h1 := hnm a (by simp)
      have h2 := hnm b (by simp)
      simp only [List.map_cons, List.nodup_cons, List.mem_cons, not_or] at hnd
      exact absurd (h1.trans h2.symm) hnd.1.1
end
end Go.Proofs.YtbhfbdcmamodcaaGreatDoor
namespace Go.Proofs.YtbhfbdcmamodcaaGreatDoor
open Go.RowKit Go.Maps TrMath FrMath PackMath SumMath
theorem strs_lone {w : World} {a : Option Addr} {x : ByteArray} (h : StrsAt w a [x]) : ∃ b off, a = some ⟨b, off, none⟩ ∧ w.cell? ⟨b, off, none⟩ = some (.string x) := by
  obtain ⟨_, b, off, h1, h2⟩ := h 0 (by simp)
  exact ⟨b, off, h1, h2⟩
set_option maxHeartbeats 2000000 in
set_option maxRecDepth 100000 in
theorem rSameOne (x : ByteArray) (a1 a2 : Option Addr) (c1 c2 : Nat) (w : World) (h1 : StrsAt w a1 [x]) (h2 : StrsAt w a2 [x]) :
    Calls Tryz.prog 19 #[.slice a1 1 c1, .slice a2 1 c2] w fun e w' => e = .returned (.bool true) ∧ Below w.heap.size w w' := by
  obtain ⟨b1, o1, rfl, k1⟩ := strs_lone h1
  obtain ⟨b2, o2, rfl, k2⟩ := strs_lone h2
  clear h1 h2
  go_enter Tryz.func19, Tryz.ntmps19
  go_wp2
  go_loopw [5] (fun iv wr => ∃ i : Nat, i ≤ 1 ∧ iv = .int .i64 i ∧ Below w.heap.size w wr) (fun iv _ => 1 - (intOf iv).toNat)
  case atStart => exact ⟨0, by omega, rfl, Below.refl _ _⟩
  case round =>
    obtain ⟨i, hi, rfl, hbel⟩ := hrel
    have m1 := bl_cell hbel k1; have m2 := bl_cell hbel k2
    have HB := Lib.hid hbel
    clear hbel k1 k2
    by_cases hlt : i < 1
    · obtain rfl : i = 0 := by omega
      go_upto_region 6 with (fail)
      go_quiet (fail)
      go_wp2
      go_roundw
      case rel => exact ⟨1, Nat.le_refl _, by go_num, bl_drewN HB.out _⟩
      case measure => simp [intOf]
    · obtain rfl : i = 1 := by omega
      go_wp2
      go_ret
      exact ⟨rfl, HB.out⟩
end Go.Proofs.YtbhfbdcmamodcaaGreatDoor
namespace Go.Proofs.YtbhfbdcmamodcaaGreatDoor
open Go.RowKit Go.Maps TrMath FrMath PackMath SumMath
theorem usual_okQ : OkQ usualP := ⟨usual_ok.1, usual_ok.2, by decide⟩
abbrev usualV : Value := .agg #[.int .i64 (usualP.H : Nat), .int .i64 (usualP.P : Nat), .int .i64 (usualP.M : Nat), .int .u32 (usualP.S : Nat)]
section
variable {W0 w w' : World} {s x p A1 A2 A3 : Nat} {cs : List ComP} {k nx : Nat} {E H : Foot} {T : List UInt8} {gs : List GraphP} {gv nv : Value} {L : List RowE}
theorem LawP.cells (P : LawP W0 w s x p A1 A2 A3 cs k nx E H T gs gv nv L) : w.cell? ⟨A3, 0, none⟩ = some (.pointer (some ⟨s, 0, none⟩)) ∧ w.cell? ⟨A1, 0, none⟩ = some gv ∧ w.cell? ⟨A2, 0, none⟩ = some nv :=
  ⟨by rw [cell_of_row _ _ _ _ _ _ P.b3]; rfl, by rw [cell_of_row _ _ _ _ _ _ P.b1]; rfl, by rw [cell_of_row _ _ _ _ _ _ P.b2]; rfl⟩
theorem LawP.Llen (P : LawP W0 w s x p A1 A2 A3 cs k nx E H T gs gv nv L) : L.length = cs.length := by have := congrArg List.length P.gL; simpa using this
theorem LawP.more (P : LawP W0 w s x p A1 A2 A3 cs k nx E H T gs gv nv L) {n : Nat} (hn : nx ≤ n) : LawP W0 w s x p A1 A2 A3 cs k n E H T gs gv nv L :=
  ⟨P.whole.more hn, P.b1, P.b2, P.b3, P.g, P.gL, P.rows, P.n, P.bel, P.own, P.low, P.hlow, P.tl, P.tr⟩
end
end Go.Proofs.YtbhfbdcmamodcaaGreatDoor
namespace Go.Proofs.YtbhfbdcmamodcaaGreatDoor
open Go.RowKit Go.Maps TrMath FrMath PackMath SumMath
def RoadE (Wk w : World) (s x p : Nat) (E : Foot) (ts : List Ents) (cs : List ComP) (T : List UInt8) (nx : Nat) : Prop :=
  ∃ gs k, WholeAt w Wk.heap.size s x p E ts cs T gs k nx ∧ Below Wk.heap.size Wk w
section
variable {Wk w w' : World} {s x p : Nat} {E : Foot} {ts : List Ents} {cs : List ComP} {T : List UInt8} {nx : Nat}
theorem RoadE.lt (h : RoadE Wk w s x p E ts cs T nx) : ∀ j, E j → Wk.heap.size ≤ j ∧ j < w.heap.size := by
  obtain ⟨gs, k, P, hb⟩ := h
  exact fun j e => ⟨P.low j e, P.lt j e⟩
theorem RoadE.bel (h : RoadE Wk w s x p E ts cs T nx) : Below Wk.heap.size Wk w := by
  obtain ⟨gs, k, P, hb⟩ := h
  exact hb
theorem RoadE.below (h : RoadE Wk w s x p E ts cs T nx) (hb : Below w.heap.size w w') : RoadE Wk w' s x p E ts cs T nx := by
  obtain ⟨gs, k, P, h1⟩ := h
  exact ⟨gs, k, P.below hb, bl_trans h1 hb⟩
theorem grew_bel {F F' : Foot} {B : Nat} (h : Grew F F' w w') (hb : Below Wk.heap.size Wk w) (hF : ∀ j, F j → Wk.heap.size ≤ j) : Below Wk.heap.size Wk w' :=
  hb.trans (h.upd.below hF hb.size)
theorem rAddTree (h : RoadE Wk w s x p E ts cs T nx) (hT : T.length ≤ 524288) (hc : cs.length ≤ 1200) (hts : ts.length < 10000) (A : Ents) (a : Option Addr) (c : Nat) (hA : EnAt w a A) (hG : GoodT A)
    (hna : ∀ b off, a = some ⟨b, off, none⟩ → ¬ E b) (haz : ∀ b off, a = some ⟨b, off, none⟩ → b < w.heap.size) :
    Calls Tryz.prog 8 #[.pointer (some ⟨s, 0, none⟩), .slice a A.length c] w fun e w' => e = .returned (.tuple #[.int .i64 (ts.length : Nat), .int .i64 0]) ∧ ∃ E', RoadE Wk w' s x p E' (ts ++ [A]) cs (T ++ recB 1 (treeB A)) nx ∧ Grew E E' w w' := by
  obtain ⟨gs, k, P, hb⟩ := h
  exact (wAddTree P hT hc hts A a c hA hG hna haz).mono fun e w' ⟨h1, E', h2, h3⟩ => ⟨h1, E', ⟨gs, k, h2, grew_bel (B := 0) h3 hb P.low⟩, h3⟩
theorem rAddCommit (h : RoadE Wk w s x p E ts cs T nx) (hT : T.length ≤ 524288) (hc : cs.length < 1200) (A : ComP) (a : Option Addr) (c : Nat) (hA : CellsAt w a (A.1.flatMap natV)) (hac : A.1.length ≤ c) (hcm : c ≤ maxLen) (hG : GoodC A) (hps : ∀ y ∈ A.1, y < cs.length) (ht : A.2 < ts.length)
    (hna : ∀ b off, a = some ⟨b, off, none⟩ → ¬ E b) (haz : ∀ b off, a = some ⟨b, off, none⟩ → b < w.heap.size) :
    Calls Tryz.prog 10 #[.pointer (some ⟨s, 0, none⟩), .agg #[.slice a A.1.length c, .int .i64 (A.2 : Nat)]] w fun e w' => e = .returned (.tuple #[.int .i64 (cs.length : Nat), .int .i64 0]) ∧ ∃ E', RoadE Wk w' s x p E' ts (cs ++ [A]) (T ++ recB 2 (comB A)) nx ∧ Grew E E' w w' := by
  obtain ⟨gs, k, P, hb⟩ := h
  exact (wAddCommit P hT hc A a c hA hac hcm hG hps ht hna haz).mono fun e w' ⟨h1, E', h2, h3⟩ => ⟨h1, E', ⟨gs, k, h2, grew_bel (B := 0) h3 hb P.low⟩, h3⟩
theorem rUpdate (h : RoadE Wk w s x p E ts cs T nx) (hT : T.length ≤ 524288) (hc : cs.length ≤ 1200) (hnx : nx < 99) {Q : SetP} (hQ : OkQ Q) :
    Calls Tryz.prog 12 #[.pointer (some ⟨x, 0, none⟩), srcV s, .agg #[.int .i64 (Q.H : Nat), .int .i64 (Q.P : Nat), .int .i64 (Q.M : Nat), .int .u32 (Q.S : Nat)]] w fun e w' => e = .returned (.int .i64 0) ∧ ∃ E', RoadE Wk w' s x p E' ts cs T (nx + 1) := by
  obtain ⟨gs, k, P, hb⟩ := h
  exact (wUpdate P hT hc hnx hQ).mono fun e w' ⟨h1, E', gs', h2, h3⟩ => ⟨h1, E', gs', _, h2, grew_bel (B := 0) h3 hb P.low⟩
theorem rCompact (h : RoadE Wk w s x p E ts cs T nx) (hT : T.length ≤ 524288) (hc : cs.length ≤ 1200) (h0 : 0 < cs.length) (hnx : nx < 99) :
    Calls Tryz.prog 13 #[.pointer (some ⟨x, 0, none⟩), srcV s, usualV] w fun e w' => e = .returned (.int .i64 0) ∧ ∃ E', WholeAt w' Wk.heap.size s x p E' ts cs T [allG usualP ts cs 0] cs.length (nx + 1) ∧ Below Wk.heap.size Wk w' := by
  obtain ⟨gs, k, P, hb⟩ := h
  exact (wCompact P hT hc h0 hnx usual_okQ).mono fun e w' ⟨h1, E', h2, h3⟩ => ⟨h1, E', h2, grew_bel (B := 0) h3 hb P.low⟩
theorem rOpen (h : RoadE Wk w s x p E ts cs T nx) (hc : cs.length ≤ 1200) : Calls Tryz.prog 7 #[.pointer (some ⟨p, 0, none⟩), .int .i64 (cs.length : Nat)] w fun e w' => e = .returned (.pointer (some ⟨w.heap.size, 0, none⟩)) ∧ ∃ E', RoadE Wk w' s w.heap.size p E' ts cs T nx := by
  obtain ⟨gs, k, P, hb⟩ := h
  exact (wOpen P hc).mono fun e w' ⟨h1, E', h2, h3⟩ => ⟨h1, E', gs, k, h2, grew_bel (B := 0) h3 hb P.low⟩
theorem rCommits (h : RoadE Wk w s x p E ts cs T nx) : Calls Tryz.prog 15 #[.pointer (some ⟨s, 0, none⟩)] w fun e w' => e = .returned (.int .i64 (cs.length : Nat)) ∧ w' = w := by
  obtain ⟨gs, k, P, hb⟩ := h
  obtain ⟨S, I, R, F, v, q, Q⟩ := P.ex
  have := sCommits Q.st
  rwa [← List.length_map (f := Prod.snd), Q.cm] at this
theorem RoadE.more {n : Nat} (h : RoadE Wk w s x p E ts cs T nx) (hn : nx ≤ n) : RoadE Wk w s x p E ts cs T n := by
  obtain ⟨gs, k, P, hb⟩ := h
  exact ⟨gs, k, P.more hn, hb⟩
theorem Grew.keeps {F F' : Foot} {w w' : World} (h : Grew F F' w w') {j : Nat} (hj : j < w.heap.size) (hF : ¬ F j) : w'.heap[j]? = w.heap[j]? := h.upd.block j hj hF
end
theorem nats_of {zs : List Int} {bs : List Nat} (h : zs = bs.map (fun (n : Nat) => (n : Int))) : zs.map Int.toNat = bs := by
  rw [h, List.map_map]
  apply List.ext_getElem
  · simp
  · intro i h1 h2
    simp
theorem logR_small (steps : List StepP) (i : Nat) (hi : i ≤ 25) (y : StepP) : (logR steps i).length ≤ 524288 ∧ (logR steps i ++ recB 1 (treeB (goodF y))).length ≤ 524288 := by
  have h1 := logR_len steps i (by omega)
  have h2 := treeB_small y
  refine ⟨by omega, ?_⟩
  rw [List.length_append, rec_len 1 _ (by omega) (by omega)]
  omega
end Go.Proofs.YtbhfbdcmamodcaaGreatDoor
namespace Go.Proofs.YtbhfbdcmamodcaaGreatDoor
open Go.RowKit Go.Maps TrMath FrMath PackMath SumMath
def lastG (steps : List StepP) (m : Nat) : GraphP := allG usualP (treesR steps m) (comsR steps m) 0
def fileT (steps : List StepP) (m : Nat) : ByteArray := if m = 0 then ⟨#[]⟩ else ⟨(graphB (lastG steps m)).toArray⟩
def logT (steps : List StepP) (m : Nat) : ByteArray := ⟨(logR steps m).toArray⟩
theorem fileT_none (steps : List StepP) {m : Nat} (h : m = 0) : fileT steps m = ⟨#[]⟩ := by unfold fileT; rw [if_pos h]
theorem fileT_some (steps : List StepP) {m : Nat} (h : 0 < m) : fileT steps m = ⟨(graphB (lastG steps m)).toArray⟩ := by unfold fileT; rw [if_neg (by omega)]
theorem fileT_full (steps : List StepP) {m : Nat} (h : 0 < m) : (fileT steps m).size ≠ 0 := by
  rw [fileT_some steps h]
  have := graphB_len (lastG steps m)
  show (graphB (lastG steps m)).toArray.size ≠ 0
  rw [List.size_toArray]
  omega
def EndR (Wk w : World) (s x p : Nat) (steps : List StepP) (m : Nat) : Prop :=
  ∃ E gs nx, WholeAt w Wk.heap.size s x p E (treesR steps m) (comsR steps m) (logR steps m) gs m nx ∧ Below Wk.heap.size Wk w ∧ ((m = 0 ∧ gs = []) ∨ (0 < m ∧ gs = [lastG steps m]))
theorem Layd.emptied {ts : List Ents} {cs : List ComP} {gs : List GraphP} (h : Layd ts cs gs 0) : gs = [] := by
  cases gs with
  | nil => rfl
  | cons g r =>
    have h1 := (h.pos g (by simp)).1
    have h2 := h.sum
    rw [List.map_cons, List.sum_cons] at h2
    omega
section
variable {Wk w w' : World} {s x p m : Nat} {steps : List StepP}
theorem EndR.below (h : EndR Wk w s x p steps m) (hb : Below w.heap.size w w') : EndR Wk w' s x p steps m := by
  obtain ⟨E, gs, nx, P, h1, h2⟩ := h
  exact ⟨E, gs, nx, P.below hb, bl_trans h1 hb, h2⟩
theorem EndR.bel (h : EndR Wk w s x p steps m) : Below Wk.heap.size Wk w := by
  obtain ⟨E, gs, nx, P, h1, h2⟩ := h
  exact h1
theorem roadEnd (hm : m ≤ 25) (h : ∃ E, RoadE Wk w s x p E (treesR steps m) (comsR steps m) (logR steps m) m) :
    Calls Tryz.prog 13 #[.pointer (some ⟨x, 0, none⟩), srcV s, usualV] w fun e w' => e = .returned (.int .i64 0) ∧ EndR Wk w' s x p steps m := by
  obtain ⟨E, hR⟩ := h
  by_cases h0 : m = 0
  · subst h0
    obtain ⟨gs, k, P, hb⟩ := hR
    have hk : k = 0 := by have := P.layd.le; rw [comsR_len] at this; omega
    subst hk
    have hg := P.layd.emptied
    exact (wCompactNone P usual_okQ).mono fun e w' ⟨h1, h2⟩ => ⟨h1, E, gs, 0, P.below h2, bl_trans hb h2, .inl ⟨rfl, hg⟩⟩
  · have hT := (logR_small steps m hm stepZ).1
    refine (rCompact hR hT (by rw [comsR_len]; omega) (by rw [comsR_len]; omega) (by omega)).mono fun e w' ⟨h1, E', h2, h3⟩ => ⟨h1, E', _, m + 1, ?_, h3, .inr ⟨by omega, rfl⟩⟩
    rw [comsR_len] at h2
    exact h2
theorem rUpdateR {E : Foot} {ts : List Ents} {cs : List ComP} {T : List UInt8} {nx : Nat} (h : RoadE Wk w s x p E ts cs T nx) (hT : T.length ≤ 524288) (hc : cs.length ≤ 1200) (hnx : nx < 99) (h9 : Nat) (h1 : 1 ≤ h9) (h2 : h9 ≤ 9) :
    Calls Tryz.prog 12 #[.pointer (some ⟨x, 0, none⟩), srcV s, .agg #[.int .i64 (h9 : Nat), .int .i64 7, .int .i64 5, .int .u32 0]] w fun e w' => e = .returned (.int .i64 0) ∧ ∃ E', RoadE Wk w' s x p E' ts cs T (nx + 1) :=
  rUpdate (Q := setR h9) h hT hc hnx (setR_ok h1 h2)
theorem EndR.len (h : EndR Wk w s x p steps m) (hm : m ≤ 25) : Calls Tryz.prog 16 #[.pointer (some ⟨x, 0, none⟩)] w fun e w' => e = .returned (.int .i64 (m : Nat)) ∧ EndR Wk w' s x p steps m := by
  have h0 := h
  obtain ⟨E, gs, nx, P, h1, h2⟩ := h
  exact (wLen P (by rw [comsR_len]; omega)).mono fun e w' ⟨e1, hb⟩ => ⟨e1, h0.below hb⟩
end
structure EndD (w : World) (p B : Nat) (F : Foot) (v : View) (q : Nat) (steps : List StepP) (m : Nat) : Prop where
  disk : Disk w p F v q
  low : ∀ j, F j → B ≤ j
  log : (logN, logR steps m) ∈ v
  ok : ∀ y ∈ v, NameOk y.1
  file : ∀ y ∈ v, y.1 ≠ logN → y.1 ≠ chainN → (⟨y.2.toArray⟩ : ByteArray) = fileT steps m
  lone : m = 0 → v = [(logN, logR steps m)]
  three : 0 < m → v.length = 3 ∧ ∃ y ∈ v, y.1 ≠ logN ∧ y.1 ≠ chainN
section
variable {Wk w w' : World} {s x p m B : Nat} {steps : List StepP} {F : Foot} {v : View} {q : Nat}
theorem EndR.disk (h : EndR Wk w s x p steps m) : ∃ F v q, EndD w p Wk.heap.size F v q steps m := by
  obtain ⟨E, gs, nx, P, h1, h2⟩ := h
  rcases h2 with ⟨h0, rfl⟩ | ⟨h0, rfl⟩
  · obtain ⟨F, v, q, hD, hF, rfl⟩ := wFinal0 P
    refine ⟨F, _, q, hD, fun j hj => P.low j (hF j hj), by simp, fun y hy => ?_, fun y hy hl => ?_, fun _ => rfl, fun h => by omega⟩
    · rw [List.mem_singleton.1 hy]; exact .inl rfl
    · rw [List.mem_singleton.1 hy] at hl; exact absurd rfl hl
  · obtain ⟨F, v, q, n, hD, hF, hv3, hlog, hch, hn, hg, hnm⟩ := wFinal P
    have hall := name_all hn
    refine ⟨F, v, q, hD, fun j hj => P.low j (hF j hj), hlog, fun y hy => ?_, fun y hy hl hc => ?_, fun h => by omega, fun _ => ⟨hv3, _, hg, hall.2.2.2.2, hall.2.2.2.1⟩⟩
    · rcases hnm y.1 (List.mem_map.2 ⟨y, hy, rfl⟩) with e | e | e
      · exact .inl e
      · exact .inr (.inl e)
      · exact .inr (.inr ⟨n, hn, e⟩)
    · rcases hnm y.1 (List.mem_map.2 ⟨y, hy, rfl⟩) with e | e | e
      · exact absurd e hl
      · exact absurd e hc
      · have hy' : (nameG n, y.2) ∈ v := by rw [← e]; exact hy
        rw [key_one hD.nodup hy' hg, fileT_some steps h0]
theorem EndD.stays (h : EndD w p B F v q steps m) (hs : Stays F w w') : EndD w' p B F v q steps m := ⟨h.disk.stays hs, h.low, h.log, h.ok, h.file, h.lone, h.three⟩
theorem EndD.below (h : EndD w p B F v q steps m) (hb : Below w.heap.size w w') : EndD w' p B F v q steps m := h.stays (Stays.of hb h.disk.lt)
theorem EndD.set (h : EndD w p B F v q steps m) (b o : Nat) (u : Value) (hb : b < B) : EndD (w.setCell ⟨b, o, none⟩ u) p B F v q steps m :=
  h.stays (((Upd.refl (· = b) w).set b o u (.inl rfl)).stays (fun k e hk => by have := h.low k hk; omega) h.disk.lt)
theorem EndD.len (h : EndD w p B F v q steps m) : v ≠ [] ∧ v.length ≤ 1000 := by
  refine ⟨fun e => ?_, ?_⟩
  · have := h.log; rw [e] at this; cases this
  · by_cases h0 : m = 0
    · rw [h.lone h0]; simp
    · rw [(h.three (by omega)).1]; omega
theorem EndD.readLog (h : EndD w p B F v q steps m) : Calls Tryz.prog 17 #[.pointer (some ⟨p, 0, none⟩), .string logN] w fun e w' => e = .returned (.tuple #[.string (logT steps m), .int .i64 0]) ∧ w' = w := dRead p q F v logN _ w h.disk (by decide) h.log
def otherN (s : ByteArray) : Bool := decide (s ≠ logN) && decide (s ≠ chainN)
theorem EndD.readFile (h : EndD w p B F v q steps m) {n : ByteArray} (hn : n ∈ v.map Prod.fst) (ho : otherN n = true) : Calls Tryz.prog 17 #[.pointer (some ⟨p, 0, none⟩), .string n] w fun e w' => e = .returned (.tuple #[.string (fileT steps m), .int .i64 0]) ∧ w' = w := by
  obtain ⟨y, hy, rfl⟩ := List.mem_map.1 hn
  unfold otherN at ho
  rw [Bool.and_eq_true, decide_eq_true_eq, decide_eq_true_eq] at ho
  rw [← h.file y hy ho.1 ho.2]
  exact dRead p q F v y.1 y.2 w h.disk (h.ok y hy).small.1 hy
structure EndN (v : View) (ns : List ByteArray) (m : Nat) : Prop where
  mem : ∀ s ∈ ns, s ∈ v.map Prod.fst
  ok : ∀ s ∈ ns, NameOk s
  lone : m = 0 → ns = [logN]
  three : 0 < m → ns.length = 3 ∧ ns.any otherN = true
  few : ns.length ≤ 3
theorem EndD.names (h : EndD w p B F v q steps m) : Calls Tryz.prog 18 #[.pointer (some ⟨p, 0, none⟩)] w fun e w' => ∃ a c ns, e = .returned (.slice a ns.length c) ∧ EndN v ns m ∧ OwnS w' w.heap.size (.slice a ns.length c) ns ∧ Below w.heap.size w w' := by
  refine (dNames p q F v w h.disk h.len.1 h.len.2).mono fun e w' ⟨val, ns, h1, hp, ho, hb⟩ => ?_
  have hok : ∀ s ∈ ns, NameOk s := fun s hs => by
    obtain ⟨y, hy, rfl⟩ := List.mem_map.1 (hp.mem_iff.1 hs)
    exact h.ok y hy
  obtain ⟨a, c, rfl, _⟩ := ho.sl (fun s hs => by have := (hok s hs).small; unfold maxLen; omega)
  have h3 : 0 < m → ns.length = 3 := fun h0 => by rw [hp.length_eq, List.length_map, (h.three h0).1]
  have h1' : m = 0 → ns = [logN] := fun h0 => by
    rw [h.lone h0] at hp
    exact List.perm_singleton.1 hp
  refine ⟨a, c, ns, h1, ⟨fun s hs => hp.mem_iff.1 hs, hok, h1', fun h0 => ⟨h3 h0, ?_⟩, ?_⟩, ho, hb⟩
  · obtain ⟨y, hy, e1, e2⟩ := (h.three h0).2
    refine List.any_eq_true.2 ⟨y.1, hp.mem_iff.2 (List.mem_map.2 ⟨y, hy, rfl⟩), ?_⟩
    unfold otherN
    simp [e1, e2]
  · by_cases h0 : m = 0
    · rw [h1' h0]; simp
    · rw [h3 (by omega)]; omega
theorem EndD.names3 (h : EndD w p B F v q steps m) (h0 : 0 < m) : Calls Tryz.prog 18 #[.pointer (some ⟨p, 0, none⟩)] w fun e w' => ∃ a c, e = .returned (.slice a 3 c) ∧ Below w.heap.size w w' :=
  h.names.mono fun e w' ⟨a, c, ns, h1, h2, _, h4⟩ => ⟨a, c, by rw [h1, (h2.three h0).1], h4⟩
theorem OwnS.strs {w : World} {B : Nat} {a : Option Addr} {c k : Nat} {l : List ByteArray} (h : OwnS w B (.slice a k c) l) (hz : ∀ s ∈ l, NameOk s) : StrsAt w a l := by
  obtain ⟨a', c', e, h1⟩ := h.sl (fun s hs => by have := (hz s hs).small; unfold maxLen; omega)
  obtain ⟨rfl, _, _⟩ := Value.slice.inj e
  exact h1
theorem EndD.names0 (h : EndD w p B F v q steps m) (h0 : m = 0) : Calls Tryz.prog 18 #[.pointer (some ⟨p, 0, none⟩)] w fun e w' => ∃ a c, e = .returned (.slice a 1 c) ∧ StrsAt w' a [logN] ∧ Below w.heap.size w w' :=
  h.names.mono fun e w' ⟨a, c, ns, h1, h2, h3, h4⟩ => by
    have e1 := h2.lone h0
    subst e1
    exact ⟨a, c, h1, h3.strs h2.ok, h4⟩
theorem OwnS.set {w : World} {B : Nat} {val : Value} {l : List ByteArray} (h : OwnS w B val l) (b o : Nat) (u : Value) (hb : b < B) : OwnS (w.setCell ⟨b, o, none⟩ u) B val l :=
  row_stays h fun g e => heap_setCell_other _ _ _ _ (by have := (h.lt g e).1; show g ≠ b; omega)
end
theorem name_eq {s t : ByteArray} : s = t ↔ s.toList = t.data.toList := by
  rw [ByteArray.toList_eq]
  constructor
  · rintro rfl; rfl
  · intro e
    cases s; cases t
    simp at e
    rw [e]
theorem other_tests (s : ByteArray) : (otherN s = true ∧ (s.toList == [108, 111, 103]) = false ∧ (s.toList == [99, 104, 97, 105, 110]) = false) ∨ (otherN s = false ∧ (((s.toList == [108, 111, 103]) = true ∧ (s.toList == [99, 104, 97, 105, 110]) = false) ∨ ((s.toList == [108, 111, 103]) = false ∧ (s.toList == [99, 104, 97, 105, 110]) = true))) := by
  have e1 : s = logN ↔ s.toList = [108, 111, 103] := name_eq (t := logN)
  have e2 : s = chainN ↔ s.toList = [99, 104, 97, 105, 110] := name_eq (t := chainN)
  unfold otherN
  by_cases h1 : s.toList = [108, 111, 103]
  · have h2 : ¬ s.toList = [99, 104, 97, 105, 110] := by rw [h1]; decide
    simp [e1, e2, h1]
  · by_cases h2 : s.toList = [99, 104, 97, 105, 110]
    · simp [e1, e2, h1, h2]
    · simp [e1, e2, h1, h2]
def curF (ns : List ByteArray) (j : Nat) (x : ByteArray) : ByteArray := if (ns.take j).any otherN then x else ⟨#[]⟩
theorem curF_start (ns : List ByteArray) (x : ByteArray) : curF ns 0 x = ⟨#[]⟩ := by simp [curF]
theorem curF_other {ns : List ByteArray} {j : Nat} (hj : j < ns.length) (h : otherN ns[j] = true) (x : ByteArray) : curF ns (j + 1) x = x := by
  unfold curF
  rw [List.take_succ_eq_append_getElem hj, List.any_append]
  simp [h]
theorem curF_same {ns : List ByteArray} {j : Nat} (hj : j < ns.length) (h : otherN ns[j] = false) (x : ByteArray) : curF ns (j + 1) x = curF ns j x := by
  unfold curF
  rw [List.take_succ_eq_append_getElem hj, List.any_append]
  simp [h]
theorem curF_end {v : View} {ns : List ByteArray} {steps : List StepP} {m : Nat} (h : EndN v ns m) : curF ns ns.length (fileT steps m) = fileT steps m := by
  unfold curF
  rw [List.take_length]
  by_cases h0 : m = 0
  · rw [fileT_none steps h0]; split <;> rfl
  · rw [(h.three (by omega)).2]; rfl
def pickS (kk i : Nat) (x : ByteArray) : ByteArray := if i < kk then x else ⟨#[]⟩
def midS (kk i : Nat) (fx x : ByteArray) : ByteArray := if i = kk then fx else pickS kk i x
theorem mid_start (kk i : Nat) (x : ByteArray) : midS kk i ⟨#[]⟩ x = pickS kk i x := by
  unfold midS pickS
  split
  · rw [if_neg (by omega)]
  · rfl
theorem mid_end (kk i : Nat) (x : ByteArray) : midS kk i x x = pickS (kk + 1) i x := by
  unfold midS pickS
  by_cases h : i = kk
  · rw [if_pos h, if_pos (by omega)]
  · rw [if_neg h]
    by_cases h2 : i < kk
    · rw [if_pos h2, if_pos (by omega)]
    · rw [if_neg h2, if_neg (by omega)]
theorem row_mid {kk : Nat} (hk : kk < 2) (a b x : ByteArray) : (#[Value.string (midS kk 0 a x), .string (midS kk 1 a x)] : Array Value).setIfInBounds kk (.string b) = #[.string (midS kk 0 b x), .string (midS kk 1 b x)] := by
  have h : kk = 0 ∨ kk = 1 := by omega
  rcases h with rfl | rfl <;> simp [midS]
structure FinS (W0 : World) (kk : Nat) (fx FT gx LT : ByteArray) (w : World) : Prop where
  f : w.heap[W0.heap.size]? = some (.cells #[.string (midS kk 0 fx FT), .string (midS kk 1 fx FT)] 9 (0, 0))
  l : w.heap[W0.heap.size + 1]? = some (.cells #[.string (midS kk 0 gx LT), .string (midS kk 1 gx LT)] 9 (0, 0))
  b : Below W0.heap.size W0 w
  z : W0.heap.size + 2 ≤ w.heap.size
theorem FinS.below {W0 w w' : World} {kk : Nat} {fx FT gx LT : ByteArray} (h : FinS W0 kk fx FT gx LT w) (hb : Below w.heap.size w w') : FinS W0 kk fx FT gx LT w' :=
  ⟨(hb.block _ (by have := h.z; omega)).trans h.f, (hb.block _ (by have := h.z; omega)).trans h.l, bl_trans h.b hb, Nat.le_trans h.z hb.size⟩
theorem FinS.setF {W0 w : World} {kk : Nat} {fx FT gx LT : ByteArray} (h : FinS W0 kk fx FT gx LT w) (hk : kk < 2) (fy : ByteArray) : FinS W0 kk fy FT gx LT (w.setCell ⟨W0.heap.size, kk, none⟩ (.string fy)) := by
  refine ⟨?_, ?_, ?_, ?_⟩
  · rw [heap_setCell_same w _ kk _ _ _ h.f, row_mid hk]
  · rw [heap_setCell_other _ _ _ _ (by show W0.heap.size + 1 ≠ W0.heap.size; omega)]; exact h.l
  · exact h.b.trans (((Upd.refl (· = W0.heap.size) w).set _ kk _ (.inl rfl)).below (fun i e => by omega) (by have := h.z; omega))
  · rw [World.size_setCell]; exact h.z
theorem FinS.setL {W0 w : World} {kk : Nat} {fx FT gx LT : ByteArray} (h : FinS W0 kk fx FT gx LT w) (hk : kk < 2) (gy : ByteArray) : FinS W0 kk fx FT gy LT (w.setCell ⟨W0.heap.size + 1, kk, none⟩ (.string gy)) := by
  refine ⟨?_, ?_, ?_, ?_⟩
  · rw [heap_setCell_other _ _ _ _ (by show W0.heap.size ≠ W0.heap.size + 1; omega)]; exact h.f
  · rw [heap_setCell_same w _ kk _ _ _ h.l, row_mid hk]
  · exact h.b.trans (((Upd.refl (· = W0.heap.size + 1) w).set _ kk _ (.inl rfl)).below (fun i e => by omega) (by have := h.z; omega))
  · rw [World.size_setCell]; exact h.z
theorem FinS.cell {W0 w : World} {kk : Nat} {fx FT gx LT : ByteArray} (h : FinS W0 kk fx FT gx LT w) (hk : kk < 2) : w.cell? ⟨W0.heap.size, kk, none⟩ = some (.string fx) := by
  rw [cell_of_row _ _ _ _ _ _ h.f]
  have h2 : kk = 0 ∨ kk = 1 := by omega
  rcases h2 with rfl | rfl <;> simp [midS]
theorem FinS.cellL {W0 w : World} {kk : Nat} {fx FT gx LT : ByteArray} (h : FinS W0 kk fx FT gx LT w) (hk : kk < 2) : w.cell? ⟨W0.heap.size + 1, kk, none⟩ = some (.string gx) := by
  rw [cell_of_row _ _ _ _ _ _ h.l]
  have h2 : kk = 0 ∨ kk = 1 := by omega
  rcases h2 with rfl | rfl <;> simp [midS]
def RoadO (W0 w : World) (kk : Nat) (FT LT : ByteArray) : Prop :=
  w.heap[W0.heap.size]? = some (.cells #[.string (pickS kk 0 FT), .string (pickS kk 1 FT)] 9 (0, 0)) ∧ w.heap[W0.heap.size + 1]? = some (.cells #[.string (pickS kk 0 LT), .string (pickS kk 1 LT)] 9 (0, 0)) ∧ Below W0.heap.size W0 w ∧ W0.heap.size + 2 ≤ w.heap.size
theorem FinS.start {W0 w : World} {kk : Nat} {FT LT : ByteArray} (h : RoadO W0 w kk FT LT) : FinS W0 kk ⟨#[]⟩ FT ⟨#[]⟩ LT w := by
  obtain ⟨h1, h2, h3, h4⟩ := h
  exact ⟨by rw [mid_start, mid_start]; exact h1, by rw [mid_start, mid_start]; exact h2, h3, h4⟩
theorem FinS.done {W0 w : World} {kk : Nat} {FT LT : ByteArray} (h : FinS W0 kk FT FT LT LT w) : RoadO W0 w (kk + 1) FT LT := by
  obtain ⟨h1, h2, h3, h4⟩ := h
  rw [mid_end, mid_end] at h1 h2
  exact ⟨h1, h2, h3, h4⟩
end Go.Proofs.YtbhfbdcmamodcaaGreatDoor
namespace Go.Proofs.YtbhfbdcmamodcaaGreatDoor
open Go.RowKit Go.Maps TrMath FrMath PackMath SumMath
theorem bytes_nat {w : World} {a : Option Addr} {zs : List Int} (h : IntsAt w .u8 a zs) : ∃ bs : List Nat, zs = bs.map (fun (n : Nat) => (n : Int)) ∧ (∀ b ∈ bs, b < 256) ∧ CellsAt w a (bs.map fun p => Value.int .u8 (p : Nat)) := by
  have hz : ∀ i (hi : i < zs.length), 0 ≤ zs[i] ∧ zs[i] ≤ 255 := fun i hi => bounds_u8 (h i hi).1
  have e : zs = (zs.map Int.toNat).map (fun (n : Nat) => (n : Int)) := by
    rw [List.map_map]
    apply List.ext_getElem
    · simp
    · intro i h1 h2
      simp only [List.getElem_map, Function.comp]
      have := hz i h1
      omega
  refine ⟨zs.map Int.toNat, e, fun b hb => ?_, fun j v hj => ?_⟩
  · obtain ⟨z, hzm, rfl⟩ := List.mem_map.1 hb
    obtain ⟨i, hi, rfl⟩ := List.mem_iff_getElem.1 hzm
    have := hz i hi
    omega
  · obtain ⟨hl, hv⟩ := List.getElem?_eq_some_iff.1 hj
    have hl' : j < zs.length := by simpa using hl
    obtain ⟨_, b, off, h1, h2⟩ := h j hl'
    refine ⟨b, off, h1, World.block_lt_of_cell? w _ h2, ?_⟩
    rw [h2, ← hv]
    simp only [List.getElem_map]
    have := hz j hl'
    congr 2
    omega
theorem LawP.form {W0 w : World} {s x p A1 A2 A3 : Nat} {cs : List ComP} {k nx : Nat} {E H : Foot} {T : List UInt8} {gs : List GraphP} {gv nv : Value} {L : List RowE} (P : LawP W0 w s x p A1 A2 A3 cs k nx E H T gs gv nv L) : ∃ a c, gv = .slice a cs.length c := by
  obtain ⟨xa, xc, hxl, _⟩ := P.g.sl
  rw [P.Llen] at hxl
  exact ⟨xa, xc, hxl⟩
end Go.Proofs.YtbhfbdcmamodcaaGreatDoor
