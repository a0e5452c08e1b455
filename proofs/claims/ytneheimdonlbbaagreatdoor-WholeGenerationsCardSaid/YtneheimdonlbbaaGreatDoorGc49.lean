/- WholeGenerations, plain: what its own boxes hold, beside the whole; WholeGenerations: its closure that adds a commit; WholeGenerations: what its calls leave; WholeGenerations, walked. -/
import Derived.Test.YtneheimdonlbbaaGreatDoorGc47
import Derived.Test.YtneheimdonlbbaaGreatDoorGc45
import Derived.Test.YtneheimdonlbbaaGreatDoorGc48
import Derived.Deep.AppendLies
import Derived.Deep.Cut
set_option linter.unusedVariables false
set_option linter.unusedSimpArgs false
namespace Go.Proofs.YtneheimdonlbbaaGreatDoor
open Go.RowKit Go.Maps TrMath FrMath PackMath SumMath
theorem disk_new (w : World) : Disk (((w.alloc (.map #[] 0)).alloc (.map #[] 0)).alloc (.cells #[.int .i64 (16777216 : Nat), .int .i64 0, .map (some w.heap.size), .map (some (w.heap.size + 1)), .slice none 0 0, .int .i64 0, .bool false] 70)) (w.heap.size + 2) (fun k => k = w.heap.size + 2 ∨ k = w.heap.size) [] 0 := by
  have hz : ((w.alloc (.map #[] 0)).alloc (.map #[] 0)).heap.size = w.heap.size + 2 := by simp
  refine ⟨⟨w.heap.size, .slice none 0 0, 0, []⟩, ⟨⟨0, w.heap.size + 1, ?_⟩, ⟨.map [], ?_, Reads.empty⟩, ⟨[], World.ownsRow_nil _ _ _ _⟩, by simp, by unfold DiskS.own; simp [Value.ownBlock]⟩, ?_, rfl, Nat.le_refl _⟩
  · have := heap_alloc_new ((w.alloc (.map #[] 0)).alloc (.map #[] 0)) (.cells #[.int .i64 (16777216 : Nat), .int .i64 0, .map (some w.heap.size), .map (some (w.heap.size + 1)), .slice none 0 0, .int .i64 0, .bool false] 70)
    rw [hz] at this
    exact this
  · refine map_stays (World.ownsMap_made w Tryz.prog 9 fileR) ?_
    rw [Below.heap_alloc _ _ _ (show w.heap.size < ((w.alloc (.map #[] 0)).alloc (.map #[] 0)).heap.size by rw [hz]; omega), Below.heap_alloc _ _ _ (show w.heap.size < (w.alloc (.map #[] 0)).heap.size by simp)]
  · funext k
    unfold DiskS.own
    simp [Value.ownBlock]
theorem goodS_nil : GoodS [] [] := ⟨by simp, fun k c h => by simp at h, by simp, by simp⟩
theorem whole_start {w : World} {B s x p : Nat} {S : StoreS} {F : Foot} (hD : Disk w p F [(logN, [])] 0) (hS : StoreAt w s S) (hp : S.disk = p) (ht : S.trees = []) (hc : S.commits = []) (hap : Apart F fun k => k ∈ S.own s) (hx : w.heap[x]? = some (.cells #[.pointer (some ⟨p, 0, none⟩), .slice none 0 0, .slice none 0 0] 95 (0, 0)))
    (hxF : ¬ F x) (hxS : x ∉ S.own s) (syn : SynOk w) (synB : nmLaysC172_ren.g 15 < B) (hF : ∀ j, F j → B ≤ j) (hSB : ∀ j ∈ S.own s, B ≤ j) (hxB : B ≤ x) : WholeAt w B s x p (fun j => F j ∨ j ∈ S.own s ∨ j = x) [] [] [] [] 0 0 := by
  have hown : ∀ j, (⟨p, .slice none 0 0, .slice none 0 0, [], []⟩ : IndexS).foot x (fun _ => False) j ↔ j = x := fun j => by
    unfold IndexS.foot IndexS.own
    simp [Value.ownBlock]
  refine ⟨⟨S, ⟨p, .slice none 0 0, .slice none 0 0, [], []⟩, fun _ => False, F, _, 0, hS, hp, by rw [ht]; rfl, by rw [hc]; rfl, ⟨hx, OwnX.nil _ _ _ _ _, OwnX.nil _ _ _ _ _, by simp, fun _ h => h.elim, by simp [IndexS.own, Value.ownBlock], fun _ _ h => h⟩, rfl, rfl, hD, by omega, ?_, fun j a b => hxF ((hown j).1 b ▸ a), hap, fun j a b => hxS ((hown j).1 b ▸ a), fun j => by rw [hown], by simp, by simp [nextN], by simp⟩, .nil, goodS_nil, syn, synB, fun j hj => ?_⟩
  · exact ⟨by simp, fun y hy => by rw [List.mem_singleton.1 hy]; exact .inl rfl, fun h => absurd rfl h, rfl, fun i h => by simp at h, by simp, by simp⟩
  · rcases hj with e | e | e
    · exact hF j e
    · exact hSB j e
    · omega
abbrev RowE := Value × List Nat
def rowL (y : RowE) : List Value := [y.1]
theorem rowLW : Wide rowL 1 := fun _ => rfl
structure OG (W6 W : World) (B2 : Nat) (lv0 gv0 lv gv : Value) (L : List RowE) (G : List Nat) : Prop where
  upd : Upd (fun k => lv0.ownBlock = some k ∨ gv0.ownBlock = some k) W6 W
  l : OwnX 42 1 rowL W B2 lv L
  g : OwnX 3 1 natV W B2 gv G
  ne : ∀ k, lv.ownBlock = some k → gv.ownBlock ≠ some k
  la : ∀ k, lv.ownBlock = some k → lv0.ownBlock = some k ∨ W6.heap.size ≤ k
  ga : ∀ k, gv.ownBlock = some k → gv0.ownBlock = some k ∨ W6.heap.size ≤ k
section
variable {W6 W Y : World} {B2 : Nat} {lv0 gv0 lv gv : Value} {L : List RowE} {G : List Nat}
theorem OG.below (h : OG W6 W B2 lv0 gv0 lv gv L G) (hb : Below W.heap.size W Y) : OG W6 Y B2 lv0 gv0 lv gv L G :=
  ⟨h.upd.thenB hb, h.l.below hb, h.g.below hb, h.ne, h.la, h.ga⟩
theorem OG.alloc (h : OG W6 W B2 lv0 gv0 lv gv L G) (o : Obj) : OG W6 (W.alloc o) B2 lv0 gv0 lv gv L G := h.below (bl_alloc (Below.refl _ _) o)
theorem OG.drew (h : OG W6 W B2 lv0 gv0 lv gv L G) : OG W6 W.drew B2 lv0 gv0 lv gv L G := h.below (bl_drew (Below.refl _ _))
theorem OG.pushL {gg cap : Nat} {y : RowE} (h : OG W6 W B2 lv0 gv0 lv gv L G) (hown : Y.ownsRow B2 42 1 (.slice (some ⟨gg, 0, none⟩) (L.length + 1) cap) (L.length + 1) (L.flatMap rowL ++ rowL y)) (hg : W.grownBy Y lv.ownBlock) (hat : lv.ownBlock = some gg ∨ gg = W.heap.size) :
    OG W6 Y B2 lv0 gv0 (.slice (some ⟨gg, 0, none⟩) (L.length + 1) cap) gv (L ++ [y]) G := by
  have hz := h.upd.size
  have key : ∀ k, (Value.slice (some ⟨gg, 0, none⟩) (L.length + 1) cap).ownBlock = some k → k = gg := fun k e => by simp [Value.ownBlock] at e; omega
  refine ⟨h.upd.grown hg fun k e => (h.la k e).imp .inl id, OwnX.push (enc := rowL) (m := [y]) hown rfl (by simp), h.g.stays fun k e => hg.block k (h.g.lt k e).2 (fun e2 => h.ne k e2.symm e), fun k e e2 => ?_, fun k e => ?_, h.ga⟩
  · obtain rfl := key k e
    rcases hat with h1 | h1
    · exact h.ne _ h1 e2
    · have := (h.g.lt _ e2).2; omega
  · obtain rfl := key k e
    rcases hat with h1 | h1
    · exact h.la _ h1
    · exact .inr (by omega)
theorem OG.pushG {gg cap : Nat} {y : Nat} (h : OG W6 W B2 lv0 gv0 lv gv L G) (hown : Y.ownsRow B2 3 1 (.slice (some ⟨gg, 0, none⟩) (G.length + 1) cap) (G.length + 1) (G.flatMap natV ++ natV y)) (hg : W.grownBy Y gv.ownBlock) (hat : gv.ownBlock = some gg ∨ gg = W.heap.size) :
    OG W6 Y B2 lv0 gv0 lv (.slice (some ⟨gg, 0, none⟩) (G.length + 1) cap) L (G ++ [y]) := by
  have hz := h.upd.size
  have key : ∀ k, (Value.slice (some ⟨gg, 0, none⟩) (G.length + 1) cap).ownBlock = some k → k = gg := fun k e => by simp [Value.ownBlock] at e; omega
  refine ⟨h.upd.grown hg fun k e => (h.ga k e).imp .inr id, h.l.stays fun k e => hg.block k (h.l.lt k e).2 (fun e2 => h.ne k e e2.symm), OwnX.push (enc := natV) (m := [y]) hown rfl (by simp), fun k e e2 => ?_, h.la, fun k e => ?_⟩
  · obtain rfl := key k e2
    rcases hat with h1 | h1
    · exact h.ne _ e h1
    · have := (h.l.lt _ e).2; omega
  · obtain rfl := key k e
    rcases hat with h1 | h1
    · exact h.ga _ h1
    · exact .inr (by omega)
end
structure LawP (W0 w : World) (s x p A1 A2 A3 : Nat) (cs : List ComP) (k nx : Nat) (E H : Foot) (T : List UInt8) (gs : List GraphP) (gv nv : Value) (L : List RowE) : Prop where
  whole : WholeAt w W0.heap.size s x p E [[]] cs T gs k nx
  b1 : w.heap[A1]? = some (.cells #[gv] 57 (0, 0))
  b2 : w.heap[A2]? = some (.cells #[nv] 42 (0, 0))
  b3 : w.heap[A3]? = some (.cells #[.pointer (some ⟨s, 0, none⟩)] 29 (0, 0))
  g : OwnX 42 1 rowL w W0.heap.size gv L
  gL : L.map Prod.snd = cs.map Prod.fst
  rows : ∀ y ∈ L, ∃ a c, y.1 = .slice a y.2.length c ∧ Lasts H w fun z => CellsAt z a (y.2.flatMap natV)
  n : OwnX 3 1 natV w W0.heap.size nv (gensN cs cs.length)
  bel : Below W0.heap.size W0 w
  own : (A1 :: A2 :: A3 :: (gv.ownBlock.toList ++ nv.ownBlock.toList)).Nodup
  low : ∀ j ∈ A1 :: A2 :: A3 :: (gv.ownBlock.toList ++ nv.ownBlock.toList), W0.heap.size ≤ j ∧ j < w.heap.size ∧ ¬ E j ∧ ¬ H j
  hlow : ∀ j, H j → W0.heap.size ≤ j ∧ j < w.heap.size ∧ ¬ E j
  tl : T.length ≤ 1000 + 100 * cs.length
  tr : ∀ c ∈ cs, c.2 = 0
def LawG (W0 w : World) (s x p A1 A2 A3 : Nat) (cs : List ComP) (k nx : Nat) : Prop := ∃ E H T gs gv nv L, LawP W0 w s x p A1 A2 A3 cs k nx E H T gs gv nv L
section
variable {W0 w w' : World} {s x x' p A1 A2 A3 : Nat} {cs : List ComP} {k k' nx nx' : Nat} {E E' H : Foot} {T : List UInt8} {gs gs' : List GraphP} {gv nv : Value} {L : List RowE}
theorem LawP.step (P : LawP W0 w s x p A1 A2 A3 cs k nx E H T gs gv nv L) (h : WholeAt w' W0.heap.size s x' p E' [[]] cs T gs' k' nx') (hg : Grew E E' w w') : LawP W0 w' s x' p A1 A2 A3 cs k' nx' E' H T gs' gv nv L := by
  have hst : ∀ j ∈ A1 :: A2 :: A3 :: (gv.ownBlock.toList ++ nv.ownBlock.toList), w'.heap[j]? = w.heap[j]? := fun j hj => by
    obtain ⟨_, h2, h3, _⟩ := P.low j hj
    exact hg.upd.block j h2 h3
  have hz := hg.upd.size
  have hE : ∀ j, j < w.heap.size → ¬ E j → ¬ E' j := fun j h1 h2 e => by
    rcases hg.sub j e with e | e
    · exact h2 e
    · omega
  have hH : Stays H w w' := ⟨fun j hj => by obtain ⟨_, h2, h3⟩ := P.hlow j hj; exact hg.upd.block j h2 h3, hz⟩
  have hB : W0.heap.size ≤ w.heap.size := P.bel.size
  refine ⟨h, (hst A1 (by simp)).trans P.b1, (hst A2 (by simp)).trans P.b2, (hst A3 (by simp)).trans P.b3, P.g.stays fun j e => hst j (by simp [e]), P.gL, fun y hy => ?_, P.n.stays fun j e => hst j (by simp [e]), P.bel.trans (hg.upd.below P.whole.low hB), P.own, fun j hj => ?_, fun j hj => ?_, P.tl, P.tr⟩
  · obtain ⟨a, c, h1, h2⟩ := P.rows y hy
    exact ⟨a, c, h1, h2.stays hH⟩
  · obtain ⟨h1, h2, h3, h4⟩ := P.low j hj
    exact ⟨h1, by omega, hE j h2 h3, h4⟩
  · obtain ⟨h1, h2, h3⟩ := P.hlow j hj
    exact ⟨h1, by omega, hE j h2 h3⟩
theorem LawP.below (P : LawP W0 w s x p A1 A2 A3 cs k nx E H T gs gv nv L) (hb : Below w.heap.size w w') : LawP W0 w' s x p A1 A2 A3 cs k nx E H T gs gv nv L :=
  P.step (P.whole.below hb) (Grew.same hb P.whole.lt)
theorem LawP.added {w7 w8 : World} {a : Option Addr} {c : Nat} {l : List Nat} {Hl : Foot} {gv' nv' : Value} {T' : List UInt8} (P : LawP W0 w s x p A1 A2 A3 cs k nx E H T gs gv nv L) (hu : Upd (fun j => j = A1 ∨ j = A2 ∨ gv.ownBlock = some j ∨ nv.ownBlock = some j) w w7)
    (b1 : w7.heap[A1]? = some (.cells #[gv'] 57 (0, 0))) (b2 : w7.heap[A2]? = some (.cells #[nv'] 42 (0, 0))) (g : OwnX 42 1 rowL w7 W0.heap.size gv' (L ++ [(.slice a l.length c, l)])) (n : OwnX 3 1 natV w7 W0.heap.size nv' (gensN cs cs.length ++ [nextG (l.map fun p => (gensN cs cs.length).getD p 0)]))
    (ga : ∀ j, gv'.ownBlock = some j → gv.ownBlock = some j ∨ w.heap.size ≤ j) (na : ∀ j, nv'.ownBlock = some j → nv.ownBlock = some j ∨ w.heap.size ≤ j) (ne : ∀ j, gv'.ownBlock = some j → nv'.ownBlock ≠ some j)
    (hl : Lasts Hl w fun z => CellsAt z a (l.flatMap natV)) (hHl : ∀ j, Hl j → W0.heap.size ≤ j ∧ ¬ E j ∧ j ∉ A1 :: A2 :: A3 :: (gv.ownBlock.toList ++ nv.ownBlock.toList))
    (h8 : WholeAt w8 W0.heap.size s x p E' [[]] (cs ++ [(l, 0)]) T' gs k nx) (hg8 : Grew E E' w7 w8) (hT : T'.length ≤ T.length + 100) : LawG W0 w8 s x p A1 A2 A3 (cs ++ [(l, 0)]) k nx := by
  have hB : W0.heap.size ≤ w.heap.size := P.bel.size
  have hz7 := hu.size
  have hz8 := hg8.upd.size
  have hgo : ∀ j, gv.ownBlock = some j → j ∈ A1 :: A2 :: A3 :: (gv.ownBlock.toList ++ nv.ownBlock.toList) := fun j e => by simp [e]
  have hno : ∀ j, nv.ownBlock = some j → j ∈ A1 :: A2 :: A3 :: (gv.ownBlock.toList ++ nv.ownBlock.toList) := fun j e => by simp [e]
  have lA : ∀ j ∈ A1 :: A2 :: A3 :: (gv'.ownBlock.toList ++ nv'.ownBlock.toList), j ∈ A1 :: A2 :: A3 :: (gv.ownBlock.toList ++ nv.ownBlock.toList) ∨ w.heap.size ≤ j := fun j hj => by
    simp only [List.mem_cons, List.mem_append, Option.mem_toList] at hj
    rcases hj with e | e | e | e | e
    · exact .inl (by simp [e])
    · exact .inl (by simp [e])
    · exact .inl (by simp [e])
    · exact (ga j e).imp (hgo j) id
    · exact (na j e).imp (hno j) id
  have hE7 : ∀ j, E j → j < w.heap.size := P.whole.lt
  have n8 : ∀ j, j < w7.heap.size → ¬ E j → w8.heap[j]? = w7.heap[j]? ∧ ¬ E' j := fun j h1 h2 => ⟨hg8.upd.block j h1 h2, fun e => by
    rcases hg8.sub j e with e | e
    · exact h2 e
    · omega⟩
  have lE : ∀ j ∈ A1 :: A2 :: A3 :: (gv'.ownBlock.toList ++ nv'.ownBlock.toList), ¬ E j := fun j hj e => by
    rcases lA j hj with h1 | h1
    · exact (P.low j h1).2.2.1 e
    · have := hE7 j e; omega
  have l7 : ∀ j ∈ A1 :: A2 :: A3 :: (gv'.ownBlock.toList ++ nv'.ownBlock.toList), j < w7.heap.size := fun j hj => by
    simp only [List.mem_cons, List.mem_append, Option.mem_toList] at hj
    rcases hj with e | e | e | e | e
    · have := (P.low A1 (by simp)).2.1; omega
    · have := (P.low A2 (by simp)).2.1; omega
    · have := (P.low A3 (by simp)).2.1; omega
    · exact (g.lt j e).2
    · exact (n.lt j e).2
  have hHst : ∀ j, j < w.heap.size → j ∉ A1 :: A2 :: A3 :: (gv.ownBlock.toList ++ nv.ownBlock.toList) → w7.heap[j]? = w.heap[j]? := fun j h1 h2 => hu.block j h1 fun e => h2 (by
    rcases e with e | e | e | e
    · simp [e]
    · simp [e]
    · exact hgo j e
    · exact hno j e)
  have hHo : ∀ j, H j → j ∉ A1 :: A2 :: A3 :: (gv.ownBlock.toList ++ nv.ownBlock.toList) := fun j hj hm => (P.low j hm).2.2.2 hj
  have hsH : Stays H w w8 := ⟨fun j hj => by
    obtain ⟨_, h2, h3⟩ := P.hlow j hj
    rw [(n8 j (by omega) h3).1, hHst j h2 (hHo j hj)], by omega⟩
  have hsl : Stays Hl w w8 := ⟨fun j hj => by
    obtain ⟨_, h2, h3⟩ := hHl j hj
    rw [(n8 j (by have := hl.1 j hj; omega) h2).1, hHst j (hl.1 j hj) h3], by omega⟩
  have hor : ∀ j, (H.or Hl) j → j < w8.heap.size := fun j hj => by
    rcases hj with hj | hj
    · have := (P.hlow j hj).2.1; omega
    · have := hl.1 j hj; omega
  have hA3 : w7.heap[A3]? = w.heap[A3]? := by
    obtain ⟨_, h2, _, _⟩ := P.low A3 (by simp)
    have hnd := P.own
    refine hu.block A3 h2 fun e => ?_
    simp only [List.nodup_cons, List.mem_cons, List.mem_append, Option.mem_toList, not_or] at hnd
    rcases e with e | e | e | e
    · exact hnd.1.2.1 e.symm
    · exact hnd.2.1.1 e.symm
    · exact hnd.2.2.1.1 e
    · exact hnd.2.2.1.2 e
  have hlen : gensN (cs ++ [(l, 0)]) (cs ++ [(l, 0)]).length = gensN cs cs.length ++ [nextG (l.map fun p => (gensN cs cs.length).getD p 0)] := by
    rw [List.length_append, List.length_singleton, gensN, gensN_mono cs _ _ (Nat.le_refl _)]
    have e : (cs ++ [(l, 0)]).getD cs.length ([], 0) = (l, 0) := by simp
    rw [e]
  refine ⟨E', H.or Hl, T', gs, gv', nv', L ++ [(.slice a l.length c, l)], h8, ((n8 A1 (l7 A1 (by simp)) (lE A1 (by simp))).1).trans b1, ((n8 A2 (l7 A2 (by simp)) (lE A2 (by simp))).1).trans b2, ((n8 A3 (l7 A3 (by simp)) (lE A3 (by simp))).1).trans (hA3.trans P.b3), g.stays fun j e => (n8 j (g.lt j e).2 (lE j (by simp [e]))).1, ?_, fun y hy => ?_, ?_, ?_, ?_, fun j hj => ?_, fun j hj => ?_, ?_, ?_⟩
  · rw [List.map_append, List.map_append, P.gL]; rfl
  · rcases List.mem_append.1 hy with hy | hy
    · obtain ⟨a', c', k1, k2⟩ := P.rows y hy
      exact ⟨a', c', k1, (k2.stays hsH).mono (fun j hj => .inl hj) hor⟩
    · rw [List.mem_singleton.1 hy]
      exact ⟨a, c, rfl, (hl.stays hsl).mono (fun j hj => .inr hj) hor⟩
  · rw [hlen]
    exact n.stays fun j e => (n8 j (n.lt j e).2 (lE j (by simp [e]))).1
  · exact (P.bel.trans (hu.below (fun j e => by
      rcases e with rfl | rfl | e | e
      · exact (P.low _ (by simp)).1
      · exact (P.low _ (by simp)).1
      · exact (P.low j (hgo j e)).1
      · exact (P.low j (hno j e)).1) hB)).trans (hg8.upd.below P.whole.low (by omega))
  · have hnd := P.own
    simp only [List.nodup_cons, List.mem_cons, List.mem_append, Option.mem_toList, not_or] at hnd ⊢
    obtain ⟨⟨d1, d2, d3, d4⟩, ⟨d5, d6, d7⟩, ⟨d8, d9⟩, _⟩ := hnd
    have hA1 := (P.low A1 (by simp)).2.1; have hA2 := (P.low A2 (by simp)).2.1; have hA3 := (P.low A3 (by simp)).2.1
    have fg : ∀ A, A < w.heap.size → gv.ownBlock ≠ some A → gv'.ownBlock ≠ some A := fun A h1 h2 e => by
      rcases ga A e with e2 | e2
      · exact h2 e2
      · omega
    have fn : ∀ A, A < w.heap.size → nv.ownBlock ≠ some A → nv'.ownBlock ≠ some A := fun A h1 h2 e => by
      rcases na A e with e2 | e2
      · exact h2 e2
      · omega
    refine ⟨⟨d1, d2, fg A1 hA1 d3, fn A1 hA1 d4⟩, ⟨d5, fg A2 hA2 d6, fn A2 hA2 d7⟩, ⟨fg A3 hA3 d8, fn A3 hA3 d9⟩, ?_⟩
    rw [List.nodup_append]
    refine ⟨by cases gv'.ownBlock <;> simp, by cases nv'.ownBlock <;> simp, fun a ha b hb e => ?_⟩
    subst e
    exact ne a (Option.mem_toList.1 ha) (Option.mem_toList.1 hb)
  · refine ⟨?_, by have := l7 j hj; omega, (n8 j (l7 j hj) (lE j hj)).2, fun e => ?_⟩
    · rcases lA j hj with h1 | h1
      · exact (P.low j h1).1
      · omega
    · rcases lA j hj with h1 | h1
      · rcases e with e | e
        · exact (P.low j h1).2.2.2 e
        · exact (hHl j e).2.2 h1
      · rcases e with e | e
        · have := (P.hlow j e).2.1; omega
        · have := hl.1 j e; omega
  · rcases hj with e | e
    · obtain ⟨h1, h2, h3⟩ := P.hlow j e
      exact ⟨h1, by omega, (n8 j (by omega) h3).2⟩
    · obtain ⟨h1, h2, _⟩ := hHl j e
      have h4 := hl.1 j e
      exact ⟨h1, by omega, (n8 j (by omega) h2).2⟩
  · rw [List.length_append]
    have := P.tl
    simp
    omega
  · intro c hc
    rcases List.mem_append.1 hc with hc | hc
    · exact P.tr c hc
    · rw [List.mem_singleton.1 hc]
end
end Go.Proofs.YtneheimdonlbbaaGreatDoor
namespace Go.Proofs.YtneheimdonlbbaaGreatDoor
open Go.RowKit Go.Maps TrMath FrMath PackMath SumMath
theorem infoListI : (Tryz.prog.info? 42).map (fun i => (i.zero, i.size, i.bytes)) = some (some (.slice none 0 0), 1, 24) := by kernel_rfl
theorem high_le : ∀ (l : List Nat) (b : Nat), b ≤ 1023 → (∀ x ∈ l, x ≤ 1023) → l.foldl max b ≤ 1023
  | [], b, h, _ => h
  | x :: r, b, h, hl => high_le r (max b x) (by have := hl x (by simp); omega) fun y hy => hl y (by simp [hy])
theorem rec_len (k : Nat) (body : List UInt8) (hk : 1 ≤ k ∧ k ≤ 255) (hb : body.length ≤ 1048576) : (recB k body).length = body.length + 9 := by
  have hs : (⟨body.toArray⟩ : ByteArray).size = body.length := sz body
  obtain ⟨fr1, fr2⟩ := fr_fine (k := (k : Int)) (body := ⟨body.toArray⟩) (by omega) (by omega)
  unfold recB
  rw [fr2, encF_len, hs]
set_option maxHeartbeats 8000000 in
set_option maxRecDepth 100000 in
theorem gAdd {W0 w : World} {s x p A1 A2 A3 : Nat} {cs : List ComP} {k nx : Nat} {E H : Foot} {T : List UInt8} {gs : List GraphP} {gv nv : Value} {L : List RowE} (P : LawP W0 w s x p A1 A2 A3 cs k nx E H T gs gv nv L) (l : List Nat) (a : Option Addr) (c : Nat) (hlc : l.length ≤ c) (hcm : c ≤ maxLen) (Hl : Foot) (hl : Lasts Hl w fun z => CellsAt z a (l.flatMap natV))
    (hHl : ∀ j, Hl j → W0.heap.size ≤ j ∧ ¬ E j ∧ j ∉ A1 :: A2 :: A3 :: (gv.ownBlock.toList ++ nv.ownBlock.toList)) (hab : ∀ b off, a = some ⟨b, off, none⟩ → ¬ E b ∧ b < w.heap.size ∧ b ∉ A1 :: A2 :: A3 :: (gv.ownBlock.toList ++ nv.ownBlock.toList)) (hps : ∀ y ∈ l, y < cs.length) (hnd : l.Nodup) (hfew : l.length ≤ 16) (hc : cs.length < 1200) :
    Calls Tryz.prog 20 #[.slice a l.length c, .pointer (some ⟨A2, 0, none⟩), .pointer (some ⟨A1, 0, none⟩), .pointer (some ⟨A3, 0, none⟩)] w fun e w' => e = .returned (.bool true) ∧ LawG W0 w' s x p A1 A2 A3 (cs ++ [(l, 0)]) k nx ∧ ∀ j, j < w.heap.size → ¬ E j → j ∉ A1 :: A2 :: A3 :: (gv.ownBlock.toList ++ nv.ownBlock.toList) → w'.heap[j]? = w.heap[j]? := by
  obtain ⟨i0, hi, hz0, hz1, hz2⟩ := info_parts infoListI
  obtain ⟨j0, hj, hj0, hj1, hj2⟩ := info_parts infoIntX
  obtain ⟨G, hG⟩ : ∃ G, gensN cs cs.length = G := ⟨_, rfl⟩
  have hGl : G.length = cs.length := by rw [← hG, gensN_len]
  have hLl : L.length = cs.length := by have := congrArg List.length P.gL; simpa using this
  have hPn := P.n
  rw [hG] at hPn
  obtain ⟨xa, xc, hxl, hxc, _, _, _, _⟩ := P.g.sl
  obtain ⟨ya, yc, hyl, hyc, _, _, _, _⟩ := hPn.sl
  subst hxl hyl
  have hG1 : ∀ i (h : i < G.length), G[i] ≤ 1023 := fun i h => by
    have := gensN_small cs cs.length G[i] (by rw [hG]; exact List.getElem_mem h)
    omega
  obtain ⟨ups, hups⟩ : ∃ ups, l.map (fun p => G.getD p 0) = ups := ⟨_, rfl⟩
  have hul : ups.length = l.length := by rw [← hups, List.length_map]
  have hu1 : ∀ y ∈ ups, y ≤ 1023 := fun y hy => by
    rw [← hups] at hy
    obtain ⟨q, hq, rfl⟩ := List.mem_map.1 hy
    have hql := hps q hq
    rw [List.getD_eq_getElem?_getD, List.getElem?_eq_getElem (by omega)]
    exact hG1 q (by omega)
  have hhg : highG ups ≤ 1023 := high_le ups 0 (by omega) hu1
  obtain ⟨nx1, hnx1⟩ : ∃ m, nextG ups = m := ⟨_, rfl⟩
  have hnx2 : min (highG ups + 1) 1023 = nx1 := hnx1
  have cA1 : w.cell? ⟨A1, 0, none⟩ = some (.slice xa L.length xc) := by rw [cell_of_row _ _ _ _ _ _ P.b1]; rfl
  have cA2 : w.cell? ⟨A2, 0, none⟩ = some (.slice ya G.length yc) := by rw [cell_of_row _ _ _ _ _ _ P.b2]; rfl
  have hcl := hl.now
  have hl16 : l.length ≤ 9223372036854775807 := by omega
  have hown := P.own
  simp only [List.nodup_cons, List.mem_cons, List.mem_append, Option.mem_toList, not_or] at hown
  obtain ⟨⟨d1, d2, d3, d4⟩, ⟨d5, d6, d7⟩, ⟨d8, d9⟩, d10⟩ := hown
  have hlA1 := P.low A1 (by simp); have hlA2 := P.low A2 (by simp); have hlA3 := P.low A3 (by simp)
  have hne : ∀ j, (Value.slice xa L.length xc).ownBlock = some j → (Value.slice ya G.length yc).ownBlock ≠ some j := fun j e e2 => (List.nodup_append.1 d10).2.2 j (Option.mem_toList.2 e) j (Option.mem_toList.2 e2) rfl
  have hHO := Lib.hid (show OG w w.drew W0.heap.size (.slice xa L.length xc) (.slice ya G.length yc) (.slice xa L.length xc) (.slice ya G.length yc) L G from OG.drew ⟨Upd.refl _ _, P.g, hPn, hne, fun j e => .inl e, fun j e => .inl e⟩)
  have hstA : ∀ Y, Upd (fun j => (Value.slice xa L.length xc).ownBlock = some j ∨ (Value.slice ya G.length yc).ownBlock = some j) w Y → Y.heap[A1]? = w.heap[A1]? ∧ Y.heap[A2]? = w.heap[A2]? := fun Y hY => ⟨hY.block A1 hlA1.2.1 fun e => e.elim d3 d4, hY.block A2 hlA2.2.1 fun e => e.elim d6 d7⟩
  have HCell := Lib.hid (show ∀ Y, Upd (fun j => (Value.slice xa L.length xc).ownBlock = some j ∨ (Value.slice ya G.length yc).ownBlock = some j) w Y → Y.cell? ⟨A1, 0, none⟩ = some (.slice xa L.length xc) ∧ Y.cell? ⟨A2, 0, none⟩ = some (.slice ya G.length yc) from fun Y hY => ⟨(World.cell?_of_block (hstA Y hY).1).trans cA1, (World.cell?_of_block (hstA Y hY).2).trans cA2⟩)
  have HBX := Lib.hid (show ∀ Y, Upd (fun j => (Value.slice xa L.length xc).ownBlock = some j ∨ (Value.slice ya G.length yc).ownBlock = some j) w Y → Y.cell? ⟨A1, 0, none⟩ = some (.slice xa L.length xc) ∧ Y.cell? ⟨A2, 0, none⟩ = some (.slice ya G.length yc) ∧ Y.frozen? ⟨A1, 0, none⟩ = false ∧ Y.frozen? ⟨A2, 0, none⟩ = false from fun Y hY =>
    ⟨(HCell.out Y hY).1, (HCell.out Y hY).2, frozen_of_row _ _ _ _ _ ((hstA Y hY).1.trans P.b1), frozen_of_row _ _ _ _ _ ((hstA Y hY).2.trans P.b2)⟩)
  have HCX := Lib.hid (show ∀ Y, Upd (fun j => (Value.slice xa L.length xc).ownBlock = some j ∨ (Value.slice ya G.length yc).ownBlock = some j) w Y → ∀ v1 : Value, (fun Y : World => Y.cell? ⟨A2, 0, none⟩ = some (.slice ya G.length yc)) (Y.setCell ⟨A1, 0, none⟩ v1) from fun Y hY v1 => (World.cell?_of_block (heap_setCell_other _ _ _ _ (Ne.symm d1))).trans (HCell.out Y hY).2)
  have HLT := Lib.hid (show ∀ j, (Value.slice xa L.length xc).ownBlock = some j → j < w.heap.size from fun j e => (P.g.lt j e).2)
  have HZW := Lib.hid (show ∀ Y, Upd (fun j => (Value.slice xa L.length xc).ownBlock = some j ∨ (Value.slice ya G.length yc).ownBlock = some j) w Y → W0.heap.size ≤ Y.heap.size from fun Y hY => Nat.le_trans P.bel.size hY.size)
  have HEnd := Lib.hid (show ∀ (Y X : World) gg cp hh dp, OG w Y W0.heap.size (.slice xa L.length xc) (.slice ya G.length yc) (.slice (some ⟨gg, 0, none⟩) (L.length + 1) cp) (.slice (some ⟨hh, 0, none⟩) (G.length + 1) dp) (L ++ [(.slice a l.length c, l)]) (G ++ [nx1]) →
      (Y.setCell ⟨A1, 0, none⟩ (.slice (some ⟨gg, 0, none⟩) (L.length + 1) cp)).setCell ⟨A2, 0, none⟩ (.slice (some ⟨hh, 0, none⟩) (G.length + 1) dp) = X →
      Hid (Calls Tryz.prog 10 #[.pointer (some ⟨s, 0, none⟩), .agg #[.slice a l.length c, .int .i64 0]] X fun e w' => e = .returned (.tuple #[.int .i64 (cs.length : Nat), .int .i64 0]) ∧ LawG W0 w' s x p A1 A2 A3 (cs ++ [(l, 0)]) k nx ∧ w'.cell? ⟨A1, 0, none⟩ = some (.slice (some ⟨gg, 0, none⟩) (L.length + 1) cp) ∧ ∀ j, j < w.heap.size → ¬ E j → j ∉ A1 :: A2 :: A3 :: ((Value.slice xa L.length xc).ownBlock.toList ++ (Value.slice ya G.length yc).ownBlock.toList) → w'.heap[j]? = w.heap[j]?) ∧
      X.cell? ⟨A3, 0, none⟩ = some (.pointer (some ⟨s, 0, none⟩)) ∧ X.cell? ⟨A1, 0, none⟩ = some (.slice (some ⟨gg, 0, none⟩) (L.length + 1) cp) ∧ True from fun Y X gg cp hh dp hO hX => by
    subst hX
    have u1 := heap_setCell_same Y A1 0 _ _ (.slice (some ⟨gg, 0, none⟩) (L.length + 1) cp) ((hstA Y hO.upd).1.trans P.b1)
    have u2 := (heap_setCell_other Y ⟨A1, 0, none⟩ A2 (.slice (some ⟨gg, 0, none⟩) (L.length + 1) cp) (Ne.symm d1)).trans ((hstA Y hO.upd).2.trans P.b2)
    have u3 := heap_setCell_same _ A2 0 _ _ (.slice (some ⟨hh, 0, none⟩) (G.length + 1) dp) u2
    have u4 := (heap_setCell_other (Y.setCell ⟨A1, 0, none⟩ (.slice (some ⟨gg, 0, none⟩) (L.length + 1) cp)) ⟨A2, 0, none⟩ A1 (.slice (some ⟨hh, 0, none⟩) (G.length + 1) dp) d1).trans u1
    have hst : ∀ j, j ≠ A1 → j ≠ A2 → ((Y.setCell ⟨A1, 0, none⟩ (.slice (some ⟨gg, 0, none⟩) (L.length + 1) cp)).setCell ⟨A2, 0, none⟩ (.slice (some ⟨hh, 0, none⟩) (G.length + 1) dp)).heap[j]? = Y.heap[j]? := fun j h1 h2 => (heap_setCell_other _ _ _ _ h2).trans (heap_setCell_other _ _ _ _ h1)
    obtain ⟨X, hX⟩ : ∃ X, (Y.setCell ⟨A1, 0, none⟩ (.slice (some ⟨gg, 0, none⟩) (L.length + 1) cp)).setCell ⟨A2, 0, none⟩ (.slice (some ⟨hh, 0, none⟩) (G.length + 1) dp) = X := ⟨_, rfl⟩
    have hux : Upd (fun j => j = A1 ∨ j = A2 ∨ (Value.slice xa L.length xc).ownBlock = some j ∨ (Value.slice ya G.length yc).ownBlock = some j) w X := by
      rw [← hX]
      exact ((hO.upd.mono fun j e => .inr (.inr e)).set A1 0 _ (.inl (.inl rfl))).set A2 0 _ (.inl (.inr (.inl rfl)))
    rw [hX] at u3 u4 hst ⊢
    have hzz := hux.size
    have hgn : ∀ j, (Value.slice (some ⟨gg, 0, none⟩) (L.length + 1) cp).ownBlock = some j → j ≠ A1 ∧ j ≠ A2 := fun j e => by
      rcases hO.la j e with e2 | e2
      · exact ⟨fun e3 => d3 (e3 ▸ e2), fun e3 => d6 (e3 ▸ e2)⟩
      · exact ⟨by omega, by omega⟩
    have hnn : ∀ j, (Value.slice (some ⟨hh, 0, none⟩) (G.length + 1) dp).ownBlock = some j → j ≠ A1 ∧ j ≠ A2 := fun j e => by
      rcases hO.ga j e with e2 | e2
      · exact ⟨fun e3 => d4 (e3 ▸ e2), fun e3 => d7 (e3 ▸ e2)⟩
      · exact ⟨by omega, by omega⟩
    have hEO : ∀ j, (j = A1 ∨ j = A2 ∨ (Value.slice xa L.length xc).ownBlock = some j ∨ (Value.slice ya G.length yc).ownBlock = some j) → j ∈ A1 :: A2 :: A3 :: ((Value.slice xa L.length xc).ownBlock.toList ++ (Value.slice ya G.length yc).ownBlock.toList) := fun j e => by
      rcases e with e | e | e | e
      · simp [e]
      · simp [e]
      · exact List.mem_cons_of_mem _ (List.mem_cons_of_mem _ (List.mem_cons_of_mem _ (List.mem_append_left _ (Option.mem_toList.2 e))))
      · exact List.mem_cons_of_mem _ (List.mem_cons_of_mem _ (List.mem_cons_of_mem _ (List.mem_append_right _ (Option.mem_toList.2 e))))
    have hW7 := P.whole.upd hux (fun j a b => (P.low j (hEO j a)).2.2.1 b) (fun j a => (P.low j (hEO j a)).1)
    have hA3 : X.heap[A3]? = w.heap[A3]? := hux.block A3 hlA3.2.1 fun e => by
      rcases e with e | e | e | e
      · exact d2 e.symm
      · exact d5 e.symm
      · exact d8 e
      · exact d9 e
    have hcx : CellsAt X a (l.flatMap natV) := hcl.stays (fun b off e _ => hux.block b (hab b off e).2.1 fun e2 => (hab b off e).2.2 (hEO b e2)) hzz
    have hGc : GoodC (l, 0) := ⟨hfew, fun y hy => by have := hps y hy; omega, hnd, by show 0 < 65536; omega⟩
    refine ⟨Lib.hid ((wAddCommit hW7 (by have := P.tl; omega) hc (l, 0) a c hcx hlc hcm hGc hps (by show 0 < 1; omega) (fun b off e => (hab b off e).1) (fun b off e => Nat.lt_of_lt_of_le (hab b off e).2.1 hzz)).mono fun e w' ⟨h1, E', h2, h3⟩ => ⟨h1, ?_, ?_, fun j j1 j2 j3 => (h3.upd.block j (by omega) j2).trans (hux.block j j1 fun e => j3 (hEO j e))⟩), ?_, ?_, trivial⟩
    · refine P.added hux u4 u3 (hO.l.stays fun j e => hst j (hgn j e).1 (hgn j e).2) (by rw [hG, hups, hnx1]; exact hO.g.stays fun j e => hst j (hnn j e).1 (hnn j e).2) hO.la hO.ga hO.ne hl hHl h2 h3 ?_
      rw [List.length_append]
      have h10 := comB_len hGc
      have := rec_len 2 (comB (l, 0)) (by omega) (by omega)
      omega
    · rw [World.cell?_of_block (h3.upd.block A1 (by omega) hlA1.2.2.1), cell_of_row _ _ _ _ _ _ u4]; rfl
    · rw [World.cell?_of_block hA3, cell_of_row _ _ _ _ _ _ P.b3]; rfl
    · rw [cell_of_row _ _ _ _ _ _ u4]; rfl)
  have HRD := Lib.hid (show ∀ i (h : i < l.length), ∃ b off nb no u, a = some ⟨b, off, none⟩ ∧ w.cell? ⟨b, off + i, none⟩ = some (.int .i64 (l[i] : Nat)) ∧ ya = some ⟨nb, no, none⟩ ∧ w.cell? ⟨nb, no + l[i], none⟩ = some (.int .i64 (u : Nat)) ∧ l[i] < G.length ∧ ∀ h : i < ups.length, ups[i]'h = u from fun i h => by
    obtain ⟨b, off, k1, _, k2⟩ := nat_cells hcl h
    have hlt := hps _ (List.getElem_mem h)
    obtain ⟨nb, no, m1, _, m2⟩ := nat_cells hyc (k := l[i]) (by omega)
    refine ⟨b, off, nb, no, _, k1, k2, m1, m2, by omega, fun h' => ?_⟩
    simp only [← hups, List.getElem_map]
    rw [List.getD_eq_getElem?_getD, List.getElem?_eq_getElem (by omega)]
    rfl)
  have hLs : L.length ≤ 2000 := by omega
  have hGs : G.length ≤ 2000 := by omega
  have hLG := Lib.hid hLl
  have hcl2 : cs.length = L.length := hLl.symm
  have HCLN := Lib.hid hcl2
  have HUL := Lib.hid hul; have HNX := Lib.hid hnx2; have HHG := Lib.hid hhg; have HU1 := Lib.hid hu1
  have hA12 : ¬ A1 = A2 := d1
  have hA21 : ¬ A2 = A1 := fun e => d1 e.symm
  have hlz := hlA1.2.1
  clear P hl hHl hab hps hnd hG hGl hLl hPn hxc hyc hG1 hups hu1 hul hhg hnx1 hnx2 hcl d1 d2 d3 d4 d5 d6 d7 d8 d9 d10 hlA1 hlA2 hlA3 hne hstA hcl2 hlz
  rw [HCLN.out] at HEnd
  go_enter Tryz.func20, Tryz.ntmps20
  go_wp2_with fail
  go_loopw [6, 13] (fun hv iv wr => ∃ i : Nat, i ≤ l.length ∧ iv = .int .i64 i ∧ hv = .int .i64 (highG (ups.take i) : Nat) ∧ w = wr) (fun _ iv _ => l.length - (intOf iv).toNat)
  case atStart => exact ⟨0, Nat.zero_le _, rfl, rfl, rfl⟩
  case round =>
    obtain ⟨i, hi2, rfl, rfl, rfl⟩ := hrel
    by_cases hlt : i < l.length
    · obtain ⟨b, off, nb, no, u, rfl, k1, rfl, k2, k3, k4⟩ := HRD.out i hlt
      have hHS := Lib.hid (show highG (ups.take (i + 1)) = max (highG (ups.take i)) u from by
        have hh : i < ups.length := by have := HUL.out; omega
        rw [highG_snoc ups hh, k4 hh])
      clear k4
      generalize l[i] = q at *
      have hmx1 : max ((highG (ups.take i) : Nat) : Int) (u : Int) = ((max (highG (ups.take i)) u : Nat) : Int) := by omega
      have hmx2 : (if ((highG (ups.take i) : Nat) : Int) ≤ (u : Int) then (u : Int) else ((highG (ups.take i) : Nat) : Int)) = ((max (highG (ups.take i)) u : Nat) : Int) := by split <;> omega
      generalize highG (ups.take i) = hg at *
      go_wp2
      go_roundw
      case rel => exact ⟨i + 1, by omega, by go_num, by rw [hHS.out], by first | rfl | trivial⟩
      case measure => simp [intOf]; omega
    · obtain rfl : i = l.length := by omega
      have hut : ups.take l.length = ups := by rw [← HUL.out, List.take_length]
      rw [hut]
      clear hut
      have hnx := HNX.out; have hhg := HHG.out
      generalize highG ups = hg at *
      have hw1 : IntKind.i64.wrap ((hg : Int) + 1) = (hg : Int) + 1 := by rw [IntWalk.i64_in _ (by omega)]
      have hmn1 : min ((hg : Int) + 1) 1023 = (nx1 : Int) := by omega
      have hmn2 : (if (hg : Int) + 1 ≤ 1023 then (hg : Int) + 1 else 1023) = (nx1 : Int) := by split <;> omega
      have hsub : IntKind.i64.wrap (((L.length + 1 : Nat) : Int) - 1) = (L.length : Int) := by rw [IntWalk.i64_in _ (by omega)]; omega
      have hsub2 : IntKind.i64.wrap ((L.length : Int) + 1 - 1) = (L.length : Int) := by rw [IntWalk.i64_in _ (by omega)]; omega
      have HO := hHO
      clear hnx hhg
      go_wp2_with fail
      refine wp_region_L (z := 10) (y := 11) (S1 := fun Y => True) (S2 := fun Y => Y.cell? ⟨A1, 0, none⟩ = some (.slice xa L.length xc)) (S3 := fun Y => Y.cell? ⟨A2, 0, none⟩ = some (.slice ya G.length yc)) (by kernel_rfl) ?_
      obtain ⟨WD, hWD⟩ : ∃ WD, w.drew = WD := ⟨_, rfl⟩
      have HWDZ := Lib.hid (show w.heap.size ≤ WD.heap.size from by rw [← hWD]; exact Nat.le_refl _)
      rw [hWD] at HO ⊢
      clear hWD
      refine wpAnyL_take (T := fun Y : World => Y.cell? ⟨A1, 0, none⟩ = some (.slice xa L.length xc)) (i := 0) (oi := ⟨some 24, _, _, _, _, _⟩) (v := ?_) rfl (by decide) (by decide) (by kernel_rfl) (by kernel_rfl) (by kernel_rfl) (fun _ _ _ h => h) (.inr (.inl ⟨.of (by kernel_rfl), fun _ _ h => h⟩)) (Or.inl ⟨by rfl, ?hy100⟩) ⟨trivial, fun _ => (HCell.out _ HO.out.upd).1, fun _ => (HCell.out _ HO.out.upd).2⟩ ?hr100
      case hy100 => (intro w' hSw; (try dsimp only at hSw); go_simp <;> (with_reducible rfl))
      (try simp only [Act.put, List.setIfInBounds_toArray, List.set_cons_zero, List.set_cons_succ])
      refine wpAnyL_take (T := fun Y : World => True) (i := 1) (oi := ⟨some 25, _, _, _, _, _⟩) (v := ?_) rfl (by decide) (by decide) (by kernel_rfl) (by kernel_rfl) (by kernel_rfl) (fun _ _ _ h => h) (.inl fun _ h => h) (Or.inl ⟨by rfl, ?hy201⟩) ⟨trivial, fun _ => (HCell.out _ HO.out.upd).1, fun _ => (HCell.out _ HO.out.upd).2⟩ ?hr201
      case hy201 => (intro w' hSw; (try dsimp only at hSw); go_simp <;> (with_reducible rfl))
      (try simp only [Act.put, List.setIfInBounds_toArray, List.set_cons_zero, List.set_cons_succ])
      refine wpAnyL_take (T := fun Y : World => Y.cell? ⟨A2, 0, none⟩ = some (.slice ya G.length yc)) (i := 4) (oi := ⟨some 28, _, _, _, _, _⟩) (v := ?_) rfl (by decide) (by decide) (by kernel_rfl) (by kernel_rfl) (by kernel_rfl) (fun _ _ _ h => h) (.inr (.inr ⟨.of (by kernel_rfl), fun _ _ h => h⟩)) (Or.inl ⟨by rfl, ?hy304⟩) ⟨trivial, fun _ => (HCell.out _ HO.out.upd).1, fun _ => (HCell.out _ HO.out.upd).2⟩ ?hr304
      case hy304 => (intro w' hSw; (try dsimp only at hSw); go_simp <;> (with_reducible rfl))
      (try simp only [Act.put, List.setIfInBounds_toArray, List.set_cons_zero, List.set_cons_succ])
      refine wpAnyL_take (T := fun Y : World => True) (i := 5) (oi := ⟨some 29, _, _, _, _, _⟩) (v := ?_) rfl (by decide) (by decide) (by kernel_rfl) (by kernel_rfl) (by kernel_rfl) (fun _ _ _ h => h) (.inl fun _ h => h) (Or.inl ⟨by rfl, ?hy405⟩) ⟨trivial, fun _ => (HCell.out _ HO.out.upd).1, fun _ => (HCell.out _ HO.out.upd).2⟩ ?hr405
      case hy405 => (intro w' hSw; (try dsimp only at hSw); go_simp <;> (with_reducible rfl))
      (try simp only [Act.put, List.setIfInBounds_toArray, List.set_cons_zero, List.set_cons_succ])
      refine wpAnyL_take (T := fun Y : World => True) (i := 6) (oi := ⟨some 30, _, _, _, _, _⟩) (v := ?_) rfl (by decide) (by decide) (by kernel_rfl) (by kernel_rfl) (by kernel_rfl) (fun _ _ _ h => h) (.inl fun _ h => h) (Or.inl ⟨by rfl, ?hy506⟩) ⟨trivial, fun _ => (HCell.out _ HO.out.upd).1, fun _ => (HCell.out _ HO.out.upd).2⟩ ?hr506
      case hy506 => (intro w' hSw; (try dsimp only at hSw); go_simp <;> (with_reducible rfl))
      (try simp only [Act.put, List.setIfInBounds_toArray, List.set_cons_zero, List.set_cons_succ])
      refine wpAnyL_take (T := fun Y : World => True) (i := 7) (oi := ⟨some 31, _, _, _, _, _⟩) (v := ?_) rfl (by decide) (by decide) (by kernel_rfl) (by kernel_rfl) (by kernel_rfl) (fun _ _ _ h => h) (.inl fun _ h => h) (Or.inl ⟨by rfl, ?hy607⟩) ⟨trivial, fun _ => (HCell.out _ HO.out.upd).1, fun _ => (HCell.out _ HO.out.upd).2⟩ ?hr607
      case hy607 => (intro w' hSw; (try dsimp only at hSw); go_simp <;> (with_reducible rfl))
      (try simp only [Act.put, List.setIfInBounds_toArray, List.set_cons_zero, List.set_cons_succ])
      refine wpAnyL_ready (rs := [2, 8]) (by kernel_rfl) (by simp) (.cons (o := ⟨some 26, _, _, _, _, _⟩) rfl (fun K hK => ?_) (.cons (o := ⟨some 32, _, _, _, _, _⟩) rfl (fun K hK => ?_) .nil))
      · have HO := HO
        go_simp
        obtain ⟨V1, hnx⟩ : ∃ V, WD.alloc (.cells #[.slice a l.length c] 42) = V := ⟨_, rfl⟩
        have HO := Lib.hid (show OG w V1 W0.heap.size (.slice xa L.length xc) (.slice ya G.length yc) (.slice xa L.length xc) (.slice ya G.length yc) L G from by rw [← hnx]; exact HO.out.alloc _)
        have HZV1 := Lib.hid (show w.heap.size ≤ V1.heap.size from HO.out.upd.size)
        have HS7 := Lib.hid (show SrcAt V1 WD.heap.size [.slice a l.length c] from by rw [← hnx]; exact SrcAt.new WD [.slice a l.length c] 42)
        rw [hnx]
        clear hnx
        refine hK.out _ _ ⟨trivial, fun _ => (HCell.out _ HO.out.upd).1, fun _ => (HCell.out _ HO.out.upd).2⟩ ?_
        clear hK K
        (try simp only [Act.put, List.setIfInBounds_toArray, List.set_cons_zero, List.set_cons_succ])
        refine wpAnyL_ready (rs := [3, 8]) (by kernel_rfl) (by simp) (.cons (o := ⟨some 27, _, _, _, _, _⟩) rfl (fun K hK => ?_) (.cons (o := ⟨some 32, _, _, _, _, _⟩) rfl (fun K hK => ?_) .nil))
        · have HO := HO
          refine step_append_lies _ rfl (.tmp 24) (.tmp 26) 57 rfl W0.heap.size 42 i0 (.slice none 0 0) 1 24 Tryz.underlying57 hi hz0 hz1 hz2 rfl (by decide) (.slice xa L.length xc) L.length (L.flatMap rowL) rfl HO.out.l _ 1 1 [.slice a l.length c] rfl rfl HS7.out.2 (by intro u hu; rw [List.mem_singleton.1 hu]; rfl) (by decide) (by unfold maxLen; omega) (by omega) (HZW.out _ HO.out.upd) _ rfl ?_
          intro gg cp V2 hown hg hat hlt
          have HO := Lib.hid (HO.out.pushL (y := (.slice a l.length c, l)) hown hg hat)
          clear hown hg hat hlt
          refine hK.out _ _ ⟨trivial, fun _ => (HCell.out _ HO.out.upd).1, fun _ => (HCell.out _ HO.out.upd).2⟩ ?_
          clear hK K
          (try simp only [Act.put, List.setIfInBounds_toArray, List.set_cons_zero, List.set_cons_succ])
          refine wpAnyL_one (i := 8) (o := ⟨some 32, _, _, _, _, _⟩) (by kernel_rfl) rfl (fun K hK => ?_)
          go_simp
          obtain ⟨V3, hnx⟩ : ∃ V, V2.alloc (.cells #[.int .i64 (nx1 : Nat)] 3) = V := ⟨_, rfl⟩
          have HO := Lib.hid (show OG w V3 W0.heap.size (.slice xa L.length xc) (.slice ya G.length yc) (.slice (some ⟨gg, 0, none⟩) (L.length + 1) cp) (.slice ya G.length yc) (L ++ [(.slice a l.length c, l)]) G from by rw [← hnx]; exact HO.out.alloc _)
          have HZV3 := Lib.hid (show w.heap.size ≤ V3.heap.size from HO.out.upd.size)
          have HS14 := Lib.hid (show SrcAt V3 V2.heap.size [.int .i64 (nx1 : Nat)] from by rw [← hnx]; exact SrcAt.new V2 [.int .i64 (nx1 : Nat)] 3)
          rw [hnx]
          clear hnx
          refine hK.out _ _ ⟨trivial, fun _ => (HCell.out _ HO.out.upd).1, fun _ => (HCell.out _ HO.out.upd).2⟩ ?_
          clear hK K
          (try simp only [Act.put, List.setIfInBounds_toArray, List.set_cons_zero, List.set_cons_succ])
          refine wpAnyL_one (i := 9) (o := ⟨some 33, _, _, _, _, _⟩) (by kernel_rfl) rfl (fun K hK => ?_)
          refine step_append_lies _ rfl (.tmp 28) (.tmp 32) 42 rfl W0.heap.size 3 j0 (.int .i64 0) 1 8 Tryz.underlying42 hj hj0 hj1 hj2 rfl (by decide) (.slice ya G.length yc) G.length (G.flatMap natV) rfl HO.out.g _ 1 1 [.int .i64 (nx1 : Nat)] rfl rfl HS14.out.2 (by intro u hu; rw [List.mem_singleton.1 hu]; rfl) (by decide) (by unfold maxLen; omega) (by omega) (HZW.out _ HO.out.upd) _ rfl ?_
          intro hh dp V4 hown hg hat hlt
          have HO := Lib.hid (HO.out.pushG (y := nx1) hown hg hat)
          clear hown hg hat hlt
          refine hK.out _ _ ⟨trivial, fun _ => (HCell.out _ HO.out.upd).1, fun _ => (HCell.out _ HO.out.upd).2⟩ ?_
          clear hK K
          (try simp only [Act.put, List.setIfInBounds_toArray, List.set_cons_zero, List.set_cons_succ])
          obtain ⟨y1, y2, f1, f2⟩ := HBX.out _ HO.out.upd
          refine wpAnyL_one (i := 10) (o := ⟨none, _, _, _, _, _⟩) (by kernel_rfl) rfl (fun K hK => ?_)
          go_simp
          refine hK.out _ _ ⟨trivial, fun h => Bool.noConfusion h, fun _ => HCX.out _ HO.out.upd _⟩ ?_
          clear hK K
          (try simp only [Act.put, List.setIfInBounds_toArray, List.set_cons_zero, List.set_cons_succ])
          refine wpAnyL_one (i := 11) (o := ⟨none, _, _, _, _, _⟩) (by kernel_rfl) rfl (fun K hK => ?_)
          go_simp
          refine hK.out _ _ ⟨trivial, fun h => Bool.noConfusion h, fun h => Bool.noConfusion h⟩ ?_
          clear hK K
          (try simp only [Act.put, List.setIfInBounds_toArray, List.set_cons_zero, List.set_cons_succ])
          refine wpAnyL_done (by kernel_rfl) ?_ _
          obtain ⟨X, hX⟩ : ∃ X, (V4.setCell ⟨A1, 0, none⟩ (.slice (some ⟨gg, 0, none⟩) (L.length + 1) cp)).setCell ⟨A2, 0, none⟩ (.slice (some ⟨hh, 0, none⟩) (G.length + 1) dp) = X := ⟨_, rfl⟩
          have HX := Lib.hid hX
          obtain ⟨HAC, x1, x2, x3⟩ := HEnd.out _ _ gg cp hh dp HO.out hX
          clear hX y1 y2 f1 f2
          rw [HX.out]
          go_wp2_with fail
          (with_reducible refine HAC.out.mono ?_)
          rintro e w8 ⟨rfl, hg8, hcell, hfr⟩
          have HG8 := Lib.hid hg8; have HFR := Lib.hid hfr
          have c8 := hcell
          clear hg8 hcell hfr x1 x2 x3
          go_wp2
          go_ret
          exact ⟨rfl, HG8.out, HFR.out⟩
        · have HO := HO
          go_simp
          obtain ⟨V2, hnx⟩ : ∃ V, V1.alloc (.cells #[.int .i64 (nx1 : Nat)] 3) = V := ⟨_, rfl⟩
          have HO := Lib.hid (show OG w V2 W0.heap.size (.slice xa L.length xc) (.slice ya G.length yc) (.slice xa L.length xc) (.slice ya G.length yc) L G from by rw [← hnx]; exact HO.out.alloc _)
          have HZV2 := Lib.hid (show w.heap.size ≤ V2.heap.size from HO.out.upd.size)
          have HS7 := Lib.hid (show SrcAt V2 WD.heap.size [.slice a l.length c] from by rw [← hnx]; exact HS7.out.alloc _)
          have HS14 := Lib.hid (show SrcAt V2 V1.heap.size [.int .i64 (nx1 : Nat)] from by rw [← hnx]; exact SrcAt.new V1 [.int .i64 (nx1 : Nat)] 3)
          rw [hnx]
          clear hnx
          refine hK.out _ _ ⟨trivial, fun _ => (HCell.out _ HO.out.upd).1, fun _ => (HCell.out _ HO.out.upd).2⟩ ?_
          clear hK K
          (try simp only [Act.put, List.setIfInBounds_toArray, List.set_cons_zero, List.set_cons_succ])
          refine wpAnyL_one (i := 3) (o := ⟨some 27, _, _, _, _, _⟩) (by kernel_rfl) rfl (fun K hK => ?_)
          refine step_append_lies _ rfl (.tmp 24) (.tmp 26) 57 rfl W0.heap.size 42 i0 (.slice none 0 0) 1 24 Tryz.underlying57 hi hz0 hz1 hz2 rfl (by decide) (.slice xa L.length xc) L.length (L.flatMap rowL) rfl HO.out.l _ 1 1 [.slice a l.length c] rfl rfl HS7.out.2 (by intro u hu; rw [List.mem_singleton.1 hu]; rfl) (by decide) (by unfold maxLen; omega) (by omega) (HZW.out _ HO.out.upd) _ rfl ?_
          intro gg cp V3 hown hg hat hlt
          have HS14 := Lib.hid (HS14.out.grown hg (fun e => by have h1 := HLT.out _ e; have h2 := HWDZ.out; have h3 := HZV1.out; omega))
          have HO := Lib.hid (HO.out.pushL (y := (.slice a l.length c, l)) hown hg hat)
          clear hown hg hat hlt
          refine hK.out _ _ ⟨trivial, fun _ => (HCell.out _ HO.out.upd).1, fun _ => (HCell.out _ HO.out.upd).2⟩ ?_
          clear hK K
          (try simp only [Act.put, List.setIfInBounds_toArray, List.set_cons_zero, List.set_cons_succ])
          refine wpAnyL_one (i := 9) (o := ⟨some 33, _, _, _, _, _⟩) (by kernel_rfl) rfl (fun K hK => ?_)
          refine step_append_lies _ rfl (.tmp 28) (.tmp 32) 42 rfl W0.heap.size 3 j0 (.int .i64 0) 1 8 Tryz.underlying42 hj hj0 hj1 hj2 rfl (by decide) (.slice ya G.length yc) G.length (G.flatMap natV) rfl HO.out.g _ 1 1 [.int .i64 (nx1 : Nat)] rfl rfl HS14.out.2 (by intro u hu; rw [List.mem_singleton.1 hu]; rfl) (by decide) (by unfold maxLen; omega) (by omega) (HZW.out _ HO.out.upd) _ rfl ?_
          intro hh dp V4 hown hg hat hlt
          have HO := Lib.hid (HO.out.pushG (y := nx1) hown hg hat)
          clear hown hg hat hlt
          refine hK.out _ _ ⟨trivial, fun _ => (HCell.out _ HO.out.upd).1, fun _ => (HCell.out _ HO.out.upd).2⟩ ?_
          clear hK K
          (try simp only [Act.put, List.setIfInBounds_toArray, List.set_cons_zero, List.set_cons_succ])
          obtain ⟨y1, y2, f1, f2⟩ := HBX.out _ HO.out.upd
          refine wpAnyL_one (i := 10) (o := ⟨none, _, _, _, _, _⟩) (by kernel_rfl) rfl (fun K hK => ?_)
          go_simp
          refine hK.out _ _ ⟨trivial, fun h => Bool.noConfusion h, fun _ => HCX.out _ HO.out.upd _⟩ ?_
          clear hK K
          (try simp only [Act.put, List.setIfInBounds_toArray, List.set_cons_zero, List.set_cons_succ])
          refine wpAnyL_one (i := 11) (o := ⟨none, _, _, _, _, _⟩) (by kernel_rfl) rfl (fun K hK => ?_)
          go_simp
          refine hK.out _ _ ⟨trivial, fun h => Bool.noConfusion h, fun h => Bool.noConfusion h⟩ ?_
          clear hK K
          (try simp only [Act.put, List.setIfInBounds_toArray, List.set_cons_zero, List.set_cons_succ])
          refine wpAnyL_done (by kernel_rfl) ?_ _
          obtain ⟨X, hX⟩ : ∃ X, (V4.setCell ⟨A1, 0, none⟩ (.slice (some ⟨gg, 0, none⟩) (L.length + 1) cp)).setCell ⟨A2, 0, none⟩ (.slice (some ⟨hh, 0, none⟩) (G.length + 1) dp) = X := ⟨_, rfl⟩
          have HX := Lib.hid hX
          obtain ⟨HAC, x1, x2, x3⟩ := HEnd.out _ _ gg cp hh dp HO.out hX
          clear hX y1 y2 f1 f2
          rw [HX.out]
          go_wp2_with fail
          (with_reducible refine HAC.out.mono ?_)
          rintro e w8 ⟨rfl, hg8, hcell, hfr⟩
          have HG8 := Lib.hid hg8; have HFR := Lib.hid hfr
          have c8 := hcell
          clear hg8 hcell hfr x1 x2 x3
          go_wp2
          go_ret
          exact ⟨rfl, HG8.out, HFR.out⟩
      · have HO := HO
        go_simp
        obtain ⟨V1, hnx⟩ : ∃ V, WD.alloc (.cells #[.int .i64 (nx1 : Nat)] 3) = V := ⟨_, rfl⟩
        have HO := Lib.hid (show OG w V1 W0.heap.size (.slice xa L.length xc) (.slice ya G.length yc) (.slice xa L.length xc) (.slice ya G.length yc) L G from by rw [← hnx]; exact HO.out.alloc _)
        have HZV1 := Lib.hid (show w.heap.size ≤ V1.heap.size from HO.out.upd.size)
        have HS14 := Lib.hid (show SrcAt V1 WD.heap.size [.int .i64 (nx1 : Nat)] from by rw [← hnx]; exact SrcAt.new WD [.int .i64 (nx1 : Nat)] 3)
        rw [hnx]
        clear hnx
        refine hK.out _ _ ⟨trivial, fun _ => (HCell.out _ HO.out.upd).1, fun _ => (HCell.out _ HO.out.upd).2⟩ ?_
        clear hK K
        (try simp only [Act.put, List.setIfInBounds_toArray, List.set_cons_zero, List.set_cons_succ])
        refine wpAnyL_one (i := 2) (o := ⟨some 26, _, _, _, _, _⟩) (by kernel_rfl) rfl (fun K hK => ?_)
        go_simp
        obtain ⟨V2, hnx⟩ : ∃ V, V1.alloc (.cells #[.slice a l.length c] 42) = V := ⟨_, rfl⟩
        have HO := Lib.hid (show OG w V2 W0.heap.size (.slice xa L.length xc) (.slice ya G.length yc) (.slice xa L.length xc) (.slice ya G.length yc) L G from by rw [← hnx]; exact HO.out.alloc _)
        have HZV2 := Lib.hid (show w.heap.size ≤ V2.heap.size from HO.out.upd.size)
        have HS14 := Lib.hid (show SrcAt V2 WD.heap.size [.int .i64 (nx1 : Nat)] from by rw [← hnx]; exact HS14.out.alloc _)
        have HS7 := Lib.hid (show SrcAt V2 V1.heap.size [.slice a l.length c] from by rw [← hnx]; exact SrcAt.new V1 [.slice a l.length c] 42)
        rw [hnx]
        clear hnx
        refine hK.out _ _ ⟨trivial, fun _ => (HCell.out _ HO.out.upd).1, fun _ => (HCell.out _ HO.out.upd).2⟩ ?_
        clear hK K
        (try simp only [Act.put, List.setIfInBounds_toArray, List.set_cons_zero, List.set_cons_succ])
        refine wpAnyL_one (i := 3) (o := ⟨some 27, _, _, _, _, _⟩) (by kernel_rfl) rfl (fun K hK => ?_)
        refine step_append_lies _ rfl (.tmp 24) (.tmp 26) 57 rfl W0.heap.size 42 i0 (.slice none 0 0) 1 24 Tryz.underlying57 hi hz0 hz1 hz2 rfl (by decide) (.slice xa L.length xc) L.length (L.flatMap rowL) rfl HO.out.l _ 1 1 [.slice a l.length c] rfl rfl HS7.out.2 (by intro u hu; rw [List.mem_singleton.1 hu]; rfl) (by decide) (by unfold maxLen; omega) (by omega) (HZW.out _ HO.out.upd) _ rfl ?_
        intro gg cp V3 hown hg hat hlt
        have HS14 := Lib.hid (HS14.out.grown hg (fun e => by have h1 := HLT.out _ e; have h2 := HWDZ.out; have h3 := HZV1.out; omega))
        have HO := Lib.hid (HO.out.pushL (y := (.slice a l.length c, l)) hown hg hat)
        clear hown hg hat hlt
        refine hK.out _ _ ⟨trivial, fun _ => (HCell.out _ HO.out.upd).1, fun _ => (HCell.out _ HO.out.upd).2⟩ ?_
        clear hK K
        (try simp only [Act.put, List.setIfInBounds_toArray, List.set_cons_zero, List.set_cons_succ])
        refine wpAnyL_one (i := 9) (o := ⟨some 33, _, _, _, _, _⟩) (by kernel_rfl) rfl (fun K hK => ?_)
        refine step_append_lies _ rfl (.tmp 28) (.tmp 32) 42 rfl W0.heap.size 3 j0 (.int .i64 0) 1 8 Tryz.underlying42 hj hj0 hj1 hj2 rfl (by decide) (.slice ya G.length yc) G.length (G.flatMap natV) rfl HO.out.g _ 1 1 [.int .i64 (nx1 : Nat)] rfl rfl HS14.out.2 (by intro u hu; rw [List.mem_singleton.1 hu]; rfl) (by decide) (by unfold maxLen; omega) (by omega) (HZW.out _ HO.out.upd) _ rfl ?_
        intro hh dp V4 hown hg hat hlt
        have HO := Lib.hid (HO.out.pushG (y := nx1) hown hg hat)
        clear hown hg hat hlt
        refine hK.out _ _ ⟨trivial, fun _ => (HCell.out _ HO.out.upd).1, fun _ => (HCell.out _ HO.out.upd).2⟩ ?_
        clear hK K
        (try simp only [Act.put, List.setIfInBounds_toArray, List.set_cons_zero, List.set_cons_succ])
        obtain ⟨y1, y2, f1, f2⟩ := HBX.out _ HO.out.upd
        refine wpAnyL_one (i := 10) (o := ⟨none, _, _, _, _, _⟩) (by kernel_rfl) rfl (fun K hK => ?_)
        go_simp
        refine hK.out _ _ ⟨trivial, fun h => Bool.noConfusion h, fun _ => HCX.out _ HO.out.upd _⟩ ?_
        clear hK K
        (try simp only [Act.put, List.setIfInBounds_toArray, List.set_cons_zero, List.set_cons_succ])
        refine wpAnyL_one (i := 11) (o := ⟨none, _, _, _, _, _⟩) (by kernel_rfl) rfl (fun K hK => ?_)
        go_simp
        refine hK.out _ _ ⟨trivial, fun h => Bool.noConfusion h, fun h => Bool.noConfusion h⟩ ?_
        clear hK K
        (try simp only [Act.put, List.setIfInBounds_toArray, List.set_cons_zero, List.set_cons_succ])
        refine wpAnyL_done (by kernel_rfl) ?_ _
        obtain ⟨X, hX⟩ : ∃ X, (V4.setCell ⟨A1, 0, none⟩ (.slice (some ⟨gg, 0, none⟩) (L.length + 1) cp)).setCell ⟨A2, 0, none⟩ (.slice (some ⟨hh, 0, none⟩) (G.length + 1) dp) = X := ⟨_, rfl⟩
        have HX := Lib.hid hX
        obtain ⟨HAC, x1, x2, x3⟩ := HEnd.out _ _ gg cp hh dp HO.out hX
        clear hX y1 y2 f1 f2
        rw [HX.out]
        go_wp2_with fail
        (with_reducible refine HAC.out.mono ?_)
        rintro e w8 ⟨rfl, hg8, hcell, hfr⟩
        have HG8 := Lib.hid hg8; have HFR := Lib.hid hfr
        have c8 := hcell
        clear hg8 hcell hfr x1 x2 x3
        go_wp2
        go_ret
        exact ⟨rfl, HG8.out, HFR.out⟩
end Go.Proofs.YtneheimdonlbbaaGreatDoor
namespace Go.Proofs.YtneheimdonlbbaaGreatDoor
open Go.RowKit Go.Maps TrMath FrMath PackMath SumMath
theorem usual_okQ : OkQ usualP := ⟨usual_ok.1, usual_ok.2, by decide⟩
abbrev usualV : Value := .agg #[.int .i64 (usualP.H : Nat), .int .i64 (usualP.P : Nat), .int .i64 (usualP.M : Nat), .int .u32 (usualP.S : Nat)]
section
variable {W0 w w' : World} {s x p A1 A2 A3 : Nat} {cs : List ComP} {k nx : Nat} {E H : Foot} {T : List UInt8} {gs : List GraphP} {gv nv : Value} {L : List RowE}
theorem LawP.cells (P : LawP W0 w s x p A1 A2 A3 cs k nx E H T gs gv nv L) : w.cell? ⟨A3, 0, none⟩ = some (.pointer (some ⟨s, 0, none⟩)) ∧ w.cell? ⟨A1, 0, none⟩ = some gv ∧ w.cell? ⟨A2, 0, none⟩ = some nv :=
  ⟨by rw [cell_of_row _ _ _ _ _ _ P.b3]; rfl, by rw [cell_of_row _ _ _ _ _ _ P.b1]; rfl, by rw [cell_of_row _ _ _ _ _ _ P.b2]; rfl⟩
theorem LawP.Llen (P : LawP W0 w s x p A1 A2 A3 cs k nx E H T gs gv nv L) : L.length = cs.length := by have := congrArg List.length P.gL; simpa using this
theorem pUpdate (P : LawP W0 w s x p A1 A2 A3 cs k nx E H T gs gv nv L) (hc : cs.length ≤ 1200) (hnx : nx < 99) : Calls Tryz.prog 12 #[.pointer (some ⟨x, 0, none⟩), srcV s, usualV] w fun e w' => e = .returned (.int .i64 0) ∧ ∃ E' gs', LawP W0 w' s x p A1 A2 A3 cs cs.length (nx + 1) E' H T gs' gv nv L :=
  (wUpdate P.whole (by have := P.tl; omega) hc hnx usual_okQ).mono fun e w' ⟨h1, E', gs', h2, h3⟩ => ⟨h1, E', gs', P.step h2 h3⟩
theorem pCompact (P : LawP W0 w s x p A1 A2 A3 cs k nx E H T gs gv nv L) (hc : cs.length ≤ 1200) (h0 : 0 < cs.length) (hnx : nx < 99) : Calls Tryz.prog 13 #[.pointer (some ⟨x, 0, none⟩), srcV s, usualV] w fun e w' => e = .returned (.int .i64 0) ∧ ∃ E', LawP W0 w' s x p A1 A2 A3 cs cs.length (nx + 1) E' H T [allG usualP [[]] cs 0] gv nv L :=
  (wCompact P.whole (by have := P.tl; omega) hc h0 hnx usual_okQ).mono fun e w' ⟨h1, E', h2, h3⟩ => ⟨h1, E', P.step h2 h3⟩
theorem pOne {g : GraphP} (P : LawP W0 w s x p A1 A2 A3 cs k nx E H T [g] gv nv L) : Calls Tryz.prog 21 #[.pointer (some ⟨x, 0, none⟩)] w fun e w' => (∃ a c, e = .returned (.slice a 1 c)) ∧ Below w.heap.size w w' := (wLayers P.whole).2
theorem pOpen (P : LawP W0 w s x p A1 A2 A3 cs k nx E H T gs gv nv L) (hc : cs.length ≤ 1200) : Calls Tryz.prog 7 #[.pointer (some ⟨p, 0, none⟩), .int .i64 (cs.length : Nat)] w fun e w' => e = .returned (.pointer (some ⟨w.heap.size, 0, none⟩)) ∧ ∃ E', LawP W0 w' s w.heap.size p A1 A2 A3 cs k nx E' H T gs gv nv L :=
  (wOpen P.whole hc).mono fun e w' ⟨h1, E', h2, h3⟩ => ⟨h1, E', P.step h2 h3⟩
theorem LawP.law (P : LawP W0 w s x p A1 A2 A3 cs k nx E H T gs gv nv L) : LawG W0 w s x p A1 A2 A3 cs k nx := ⟨E, H, T, gs, gv, nv, L, P⟩
theorem LawP.more (P : LawP W0 w s x p A1 A2 A3 cs k nx E H T gs gv nv L) {n : Nat} (hn : nx ≤ n) : LawP W0 w s x p A1 A2 A3 cs k n E H T gs gv nv L :=
  ⟨P.whole.more hn, P.b1, P.b2, P.b3, P.g, P.gL, P.rows, P.n, P.bel, P.own, P.low, P.hlow, P.tl, P.tr⟩
theorem LawP.reads (P : LawP W0 w s x p A1 A2 A3 cs k nx E H T gs gv nv L) {n : Nat} (hn : n < cs.length) (Q : SetP) : ∃ xa xc ya yc b off nb no ra rc, gv = .slice xa cs.length xc ∧ nv = .slice ya cs.length yc ∧ xa = some ⟨b, off, none⟩ ∧ ya = some ⟨nb, no, none⟩ ∧
    w.cell? ⟨b, off + n, none⟩ = some (.slice ra (rowN Q [[]] cs n).parents.length rc) ∧ CellsAt w ra ((rowN Q [[]] cs n).parents.flatMap natV) ∧ w.cell? ⟨nb, no + n, none⟩ = some (.int .i64 ((rowN Q [[]] cs n).gen : Nat)) ∧ (rowN Q [[]] cs n).tree = 0 ∧ b < w.heap.size ∧ nb < w.heap.size := by
  have hLl := P.Llen
  obtain ⟨xa, xc, hxl, hxc, _, _, _, _⟩ := P.g.sl
  obtain ⟨ya, yc, hyl, hyc, _, _, _, _⟩ := P.n.sl
  rw [hLl] at hxl
  rw [gensN_len] at hyl
  obtain ⟨b, off, e1, e2, e3⟩ := hxc.elem rowLW (i := n) (by omega) (by decide)
  obtain ⟨nb, no, m1, m2, m3⟩ := nat_cells hyc (k := n) (by rw [gensN_len]; exact hn)
  have hpar : (L[n]'(by omega)).2 = (rowN Q [[]] cs n).parents := by
    have h1 := congrArg (fun l => l[n]?) P.gL
    simp only [List.getElem?_map] at h1
    rw [List.getElem?_eq_getElem (by omega), List.getElem?_eq_getElem hn] at h1
    show _ = (cs.getD n ([], 0)).1
    rw [List.getD_eq_getElem?_getD, List.getElem?_eq_getElem hn]
    exact Option.some.inj h1
  obtain ⟨ra, rc, r1, r2⟩ := P.rows _ (List.getElem_mem (l := L) (n := n) (by omega))
  have h3 := e3 0 _ rfl
  rw [Nat.mul_one, Nat.add_zero, r1, hpar] at h3
  have r3 := r2.now
  rw [hpar] at r3
  refine ⟨xa, xc, ya, yc, b, off, nb, no, ra, rc, hxl, hyl, e1, m1, h3, r3, ?_, ?_, e2, m2⟩
  · rw [m3]
    congr 3
    show _ = genAt cs n
    unfold genAt
    rw [← gensN_getD cs (k := n) (n := n + 1) (m := cs.length) (by omega) (by omega), List.getD_eq_getElem?_getD, List.getElem?_eq_getElem (by rw [gensN_len]; exact hn)]
    rfl
  · show (cs.getD n ([], 0)).2 = 0
    rw [List.getD_eq_getElem?_getD, List.getElem?_eq_getElem hn]
    exact P.tr _ (List.getElem_mem hn)
theorem lawP_start {E' : Foot} (h : WholeAt w W0.heap.size s x p E [] [] [] [] 0 0) (h' : WholeAt w' W0.heap.size s x p E' [[]] [] T [] 0 0) (hg : Grew E E' w w') (hT : T.length ≤ 1000) (b1 : w.heap[A1]? = some (.cells #[.slice none 0 0] 57 (0, 0))) (b2 : w.heap[A2]? = some (.cells #[.slice none 0 0] 42 (0, 0))) (b3 : w.heap[A3]? = some (.cells #[.pointer (some ⟨s, 0, none⟩)] 29 (0, 0)))
    (hb : Below W0.heap.size W0 w) (d : A1 ≠ A2 ∧ A1 ≠ A3 ∧ A2 ≠ A3) (lo : ∀ j, j = A1 ∨ j = A2 ∨ j = A3 → W0.heap.size ≤ j ∧ ¬ E j) : LawP W0 w' s x p A1 A2 A3 [] 0 0 E' (fun _ => False) T [] (.slice none 0 0) (.slice none 0 0) [] := by
  have l1 := (Array.getElem?_eq_some_iff.1 b1).1
  have l2 := (Array.getElem?_eq_some_iff.1 b2).1
  have l3 := (Array.getElem?_eq_some_iff.1 b3).1
  have hz := hg.upd.size
  have hE : ∀ j, j < w.heap.size → ¬ E j → ¬ E' j := fun j h1 h2 e => by
    rcases hg.sub j e with e | e
    · exact h2 e
    · omega
  refine ⟨h', (hg.upd.block _ l1 (lo A1 (.inl rfl)).2).trans b1, (hg.upd.block _ l2 (lo A2 (.inr (.inl rfl))).2).trans b2, (hg.upd.block _ l3 (lo A3 (.inr (.inr rfl))).2).trans b3, OwnX.nil _ _ _ _ _, rfl, by simp, OwnX.nil _ _ _ _ _, hb.trans (hg.upd.below h.low hb.size), by simp [Value.ownBlock, d], fun j hj => ?_, fun j hj => hj.elim, by simpa using hT, by simp⟩
  simp [Value.ownBlock] at hj
  obtain ⟨k1, k2⟩ := lo j hj
  have hjl : j < w.heap.size := by rcases hj with rfl | rfl | rfl <;> assumption
  exact ⟨k1, by omega, hE j hjl k2, fun h => h⟩
end
end Go.Proofs.YtneheimdonlbbaaGreatDoor
namespace Go.Proofs.YtneheimdonlbbaaGreatDoor
open Go.RowKit Go.Maps TrMath FrMath PackMath SumMath
theorem bytes_nat {w : World} {a : Option Addr} {zs : List Int} (h : IntsAt w .u8 a zs) : ∃ bs : List Nat, zs = bs.map (fun (n : Nat) => (n : Int)) ∧ (∀ b ∈ bs, b < 256) ∧ CellsAt w a (bs.map fun p => Value.int .u8 (p : Nat)) := by
  have hz : ∀ i (hi : i < zs.length), 0 ≤ zs[i] ∧ zs[i] ≤ 255 := fun i hi => bounds_u8 (h i hi).1
  have e : zs = (zs.map Int.toNat).map (fun (n : Nat) => (n : Int)) := by
    rw [List.map_map]
    apply List.ext_getElem
    · simp
    · intro i h1 h2
      simp only [List.getElem_map, Function.comp]
      have := hz i h1
      omega
  refine ⟨zs.map Int.toNat, e, fun b hb => ?_, fun j v hj => ?_⟩
  · obtain ⟨z, hzm, rfl⟩ := List.mem_map.1 hb
    obtain ⟨i, hi, rfl⟩ := List.mem_iff_getElem.1 hzm
    have := hz i hi
    omega
  · obtain ⟨hl, hv⟩ := List.getElem?_eq_some_iff.1 hj
    have hl' : j < zs.length := by simpa using hl
    obtain ⟨_, b, off, h1, h2⟩ := h j hl'
    refine ⟨b, off, h1, World.block_lt_of_cell? w _ h2, ?_⟩
    rw [h2, ← hv]
    simp only [List.getElem_map]
    have := hz j hl'
    congr 2
    omega
theorem LawP.form {W0 w : World} {s x p A1 A2 A3 : Nat} {cs : List ComP} {k nx : Nat} {E H : Foot} {T : List UInt8} {gs : List GraphP} {gv nv : Value} {L : List RowE} (P : LawP W0 w s x p A1 A2 A3 cs k nx E H T gs gv nv L) : ∃ a c, gv = .slice a cs.length c := by
  obtain ⟨xa, xc, hxl, _⟩ := P.g.sl
  rw [P.Llen] at hxl
  exact ⟨xa, xc, hxl⟩
set_option maxHeartbeats 8000000 in
set_option maxRecDepth 100000 in
theorem wholeGen (steps : List StepP) (sa : Option Addr) (sc : Nat) (hsc : steps.length ≤ sc) (hscm : sc ≤ maxLen) (long : Nat) (hlong : long < 65536) (W0 : World) (hst : CellsAt W0 sa (steps.flatMap stepC)) (hok : ∀ y ∈ steps, StepOk W0 y) (hsyn : SynOk W0) :
    Calls Tryz.prog 4 #[.slice sa steps.length sc, .int .u16 (long : Nat)] W0 fun e w' => e = .returned (.bool true) ∧ Below W0.heap.size W0 w' := by
  obtain ⟨m, hm⟩ : ∃ m, min steps.length 40 = m := ⟨_, rfl⟩
  have hml : m ≤ steps.length := by omega
  have hm40 : m ≤ 40 := by omega
  have hmI : min (steps.length : Int) 40 = (m : Int) := by omega
  have hmIf : (if (steps.length : Int) ≤ 40 then (steps.length : Int) else 40) = (m : Int) := by split <;> omega
  have hscm' : sc ≤ 9223372036854775807 := hscm
  obtain ⟨W1, hW1⟩ : ∃ W1, ((W0.alloc (.map #[] 0)).alloc (.map #[] 0)).alloc (.cells #[.int .i64 (16777216 : Nat), .int .i64 0, .map (some W0.heap.size), .map (some (W0.heap.size + 1)), .slice none 0 0, .int .i64 0, .bool false] 70) = W1 := ⟨_, rfl⟩
  have HNew := Lib.hid (show Calls Tryz.prog 5 #[.int .i64 16777216] W0 fun e w' => e = .returned (.tuple #[.pointer (some ⟨W0.heap.size + 2, 0, none⟩), .int .i64 0]) ∧ w' = W1 from (sNew 16777216 (by omega) W0).mono fun e w' ⟨h1, h2⟩ => ⟨h1, h2.trans hW1⟩)
  have hD1 := disk_new W0
  rw [hW1] at hD1
  have hb1 : Below W0.heap.size W0 W1 := by rw [← hW1]; exact bl_alloc (bl_alloc (bl_alloc (Below.refl _ _) _) _) _
  have HOp := Lib.hid (sOpenNew (W0.heap.size + 2) 0 _ W1 hD1 (by omega))
  have HW1 := Lib.hid hW1; have HB1 := Lib.hid hb1; have HD1 := Lib.hid hD1; have HST := Lib.hid hst; have HOK := Lib.hid hok; have HSY := Lib.hid hsyn; have HM := Lib.hid hm
  clear hW1 hb1 hD1 hst hok hsyn hm
  go_enter Tryz.func4, Tryz.ntmps4
  go_upto_if 31 with (fail)
  go_cut [5] from 24 (fun lv wr => ∃ line : Nat, line ≤ 1062 ∧ lv = .int .i64 (line : Nat) ∧ W0 = wr)
  case first =>
    by_cases h8 : long % 8 = 0
    · have hd1 : (((long : Nat) : Int) % 8 == 0) = true := by rw [beq_iff_eq]; omega
      have hd2 : (((long % 8 : Nat) : Int) == 0) = true := by rw [beq_iff_eq]; omega
      have hd3 : ((long : Nat) : Int) % 8 = 0 := by omega
      go_wp2
      go_meet
      case rel => exact ⟨1003 + long / 8 % 60, by omega, by go_num, rfl⟩
    · have hd1 : (((long : Nat) : Int) % 8 == 0) = false := by rw [beq_eq_false_iff_ne]; omega
      have hd2 : (((long % 8 : Nat) : Int) == 0) = false := by rw [beq_eq_false_iff_ne]; omega
      have hd3 : ¬ ((long : Nat) : Int) % 8 = 0 := by omega
      go_wp2
      go_meet
      case rel => exact ⟨0, by omega, rfl, rfl⟩
  case rest =>
    obtain ⟨line, hline, rfl, rfl⟩ := hcut
    go_wp2_with fail
    (with_reducible refine HNew.out.mono ?_)
    rintro e w1 ⟨rfl, hw1⟩
    rw [hw1]
    clear hw1
    go_wp2_with fail
    (with_reducible refine HOp.out.mono ?_)
    rintro e w2 ⟨s, F2, S2, rfl, hD2, hS2, hp2, ht2, hc2, hap2, hg2, hlow2⟩
    obtain ⟨W3, hW3⟩ : ∃ W3, w2.alloc (.cells #[.pointer (some ⟨s, 0, none⟩)] 29) = W3 := ⟨_, rfl⟩
    have hb3 : Below w2.heap.size w2 W3 := by rw [← hW3]; exact bl_alloc (Below.refl _ _) _
    have hx3 : W3.heap[w2.heap.size]? = some (.cells #[.pointer (some ⟨s, 0, none⟩)] 29 (0, 0)) := by rw [← hW3]; exact heap_alloc_new _ _
    have hz3 : W3.heap.size = w2.heap.size + 1 := by rw [← hW3]; simp
    have HON := Lib.hid (wOpenNew (hD2.below hb3) (by simp))
    obtain ⟨W4, hW4⟩ : ∃ W4, W3.alloc (.cells #[.pointer (some ⟨W0.heap.size + 2, 0, none⟩), .slice none 0 0, .slice none 0 0] 95) = W4 := ⟨_, rfl⟩
    obtain ⟨W5, hW5⟩ : ∃ W5, W4.alloc (.cells #[.slice none 0 0] 57) = W5 := ⟨_, rfl⟩
    obtain ⟨W6, hW6⟩ : ∃ W6, W5.alloc (.cells #[.slice none 0 0] 42) = W6 := ⟨_, rfl⟩
    have hz4 : W4.heap.size = w2.heap.size + 2 := by rw [← hW4]; simp <;> omega
    have hz5 : W5.heap.size = w2.heap.size + 3 := by rw [← hW5]; simp <;> omega
    have hz6 : W6.heap.size = w2.heap.size + 4 := by rw [← hW6]; simp <;> omega
    have hb4 : Below W3.heap.size W3 W4 := by rw [← hW4]; exact bl_alloc (Below.refl _ _) _
    have hb5 : Below W4.heap.size W4 W5 := by rw [← hW5]; exact bl_alloc (Below.refl _ _) _
    have hb6 : Below W5.heap.size W5 W6 := by rw [← hW6]; exact bl_alloc (Below.refl _ _) _
    have hb26 : Below w2.heap.size w2 W6 := bl_trans (bl_trans (bl_trans hb3 hb4) hb5) hb6
    have hx4 : W6.heap[W3.heap.size]? = some (.cells #[.pointer (some ⟨W0.heap.size + 2, 0, none⟩), .slice none 0 0, .slice none 0 0] 95 (0, 0)) := by
      rw [hb6.block _ (by omega), hb5.block _ (by omega), ← hW4]; exact heap_alloc_new _ _
    have hx5 : W6.heap[W4.heap.size]? = some (.cells #[.slice none 0 0] 57 (0, 0)) := by rw [hb6.block _ (by omega), ← hW5]; exact heap_alloc_new _ _
    have hx6 : W6.heap[W5.heap.size]? = some (.cells #[.slice none 0 0] 42 (0, 0)) := by rw [← hW6]; exact heap_alloc_new _ _
    have hz45 : W5.heap.size = W4.heap.size + 1 := by omega
    rw [hz45] at hx6
    have hx36 : W6.heap[w2.heap.size]? = some (.cells #[.pointer (some ⟨s, 0, none⟩)] 29 (0, 0)) := by rw [hb6.block _ (by omega), hb5.block _ (by omega), hb4.block _ (by omega)]; exact hx3
    have hFlo : ∀ j, F2 j → W0.heap.size ≤ j := fun j hj => by
      rcases hg2.sub j (.inl hj) with e | e
      · omega
      · have := HB1.out.size; omega
    have hSlo : ∀ j ∈ S2.own s, W0.heap.size ≤ j := fun j hj => by have := hlow2 j hj; have := HB1.out.size; omega
    have hFl := hD2.lt
    have hSl := hS2.lt
    have hb02 : Below W0.heap.size W0 w2 := HB1.out.trans (hg2.upd.below (fun j e => by rcases e with e | e <;> omega) HB1.out.size)
    have hz02 := hb02.size
    have hb06 : Below W0.heap.size W0 W6 := hb02.trans (hb26.mono hz02)
    have hsy6 := HSY.out.stays (hb06.block _ HSY.out.lt)
    have hWh := whole_start (w := W6) (B := W0.heap.size) (x := W3.heap.size) (p := W0.heap.size + 2) (hD2.below hb26) (hS2.below hb26) hp2 ht2 hc2 hap2 hx4 (fun e => by have := hFl _ e; omega) (fun e => by have := hSl _ e; omega) hsy6 HSY.out.lt hFlo hSlo (by omega)
    have HAT := Lib.hid (show Calls Tryz.prog 8 #[.pointer (some ⟨s, 0, none⟩), .slice none 0 0] W6 fun e w' => e = .returned (.tuple #[.int .i64 0, .int .i64 0]) ∧ ∃ E' T, LawP W0 w' s W3.heap.size (W0.heap.size + 2) W4.heap.size (W4.heap.size + 1) w2.heap.size [] 0 0 E' (fun _ => False) T [] (.slice none 0 0) (.slice none 0 0) [] from
      (wAddTree hWh (by simp) (by simp) (by simp) [] none 0 (fun i hi => by simp at hi) goodT_nil (fun _ _ e => by cases e) (fun _ _ e => by cases e)).mono fun e w' ⟨h1, E', h2, h3⟩ => ⟨h1, E', _, lawP_start hWh h2 h3 (by
        rw [List.nil_append, rec_len 1 (treeB []) (by omega) (by decide)]
        have : (treeB []).length ≤ 100 := by decide
        omega) hx5 hx6 hx36 hb06 ⟨by omega, by omega, by omega⟩ (fun j hj => ⟨by omega, fun e => by
          rcases e with e | e | e
          · have := hFl _ e; omega
          · have := hSl _ e; omega
          · omega⟩)⟩)
    have HW3 := Lib.hid hW3; have HW4 := Lib.hid hW4; have HW5 := Lib.hid hW5; have HW6 := Lib.hid hW6
    have c3 : W3.cell? ⟨w2.heap.size, 0, none⟩ = some (.pointer (some ⟨s, 0, none⟩)) := by rw [cell_of_row _ _ _ _ _ _ hx3]; rfl
    have c4 : W4.cell? ⟨w2.heap.size, 0, none⟩ = some (.pointer (some ⟨s, 0, none⟩)) := bl_cell hb4 c3
    have c6 : W6.cell? ⟨w2.heap.size, 0, none⟩ = some (.pointer (some ⟨s, 0, none⟩)) := by rw [cell_of_row _ _ _ _ _ _ hx36]; rfl
    clear hD2 hS2 hp2 ht2 hc2 hap2 hg2 hlow2 hW3 hb3 hx3 hz3 hW4 hW5 hW6 hz4 hz5 hz6 hz45 hb4 hb5 hb6 hb26 hx4 hx5 hx6 hx36 hFlo hSlo hFl hSl hb02 hz02 hb06 hsy6 hWh
    go_wp2_with fail
    rw [HW3.out]
    go_wp2_with fail
    (with_reducible refine HON.out.mono ?_)
    rintro e w4 ⟨rfl, hw4⟩
    rw [HW4.out] at hw4
    rw [hw4]
    clear hw4
    go_upto_region 13 with (fail)
    rw [HW5.out, HW6.out]
    go_wp2_with fail
    (with_reducible refine HAT.out.mono ?_)
    rintro e w7 ⟨rfl, E7, T7, hP7⟩
    have HP7 := Lib.hid hP7.law
    clear hP7 c3 c4 c6
    generalize W3.heap.size = x0 at *
    generalize W4.heap.size = A1 at *
    generalize A1 + 1 = A2 at *
    generalize w2.heap.size = A3 at *
    generalize W0.heap.size + 2 = p at *
    go_wp2_with fail
    go_loopw [63] (fun iv wr => ∃ (i : Nat) (cs : List ComP), i ≤ line ∧ iv = .int .i64 i ∧ Hid (cs.length = i) ∧ LawG W0 wr s x0 p A1 A2 A3 cs 0 0) (fun iv _ => line - (intOf iv).toNat)
    case atStart => exact ⟨0, [], Nat.zero_le _, rfl, Lib.hid rfl, HP7.out⟩
    case round =>
      obtain ⟨i, cs, hi, rfl, HCS, hlaw⟩ := hrel
      obtain ⟨wq, hwq⟩ : ∃ wq : World, wq = wr := ⟨_, rfl⟩
      subst hwq
      by_cases hlt : i < line
      · obtain ⟨E, H, T, gs, gv, nv, L, P⟩ := hlaw
        obtain ⟨WB, hWB⟩ : ∃ WB, wq.alloc (.cells #[.int .i64 ((i : Int) - 1)] 3) = WB := ⟨_, rfl⟩
        have hbB : Below wq.heap.size wq WB := by rw [← hWB]; exact bl_alloc (Below.refl _ _) _
        have hsB : WB.heap[wq.heap.size]? = some (.cells #[.int .i64 ((i : Int) - 1)] 3 (0, 0)) := by rw [← hWB]; exact heap_alloc_new _ _
        have hzB := (Array.getElem?_eq_some_iff.1 hsB).1
        have hBw := P.bel.size
        have hcl := HCS.out
        have hnotE : ¬ E wq.heap.size := fun e => by have := P.whole.lt _ e; omega
        have hnotO : wq.heap.size ∉ A1 :: A2 :: A3 :: (gv.ownBlock.toList ++ nv.ownBlock.toList) := fun e => by have := (P.low _ e).2.1; omega
        have hAdd : ∀ (l : List Nat) (ln : Nat), l.length = ln → CellsAt WB (some ⟨wq.heap.size, 0, none⟩) (l.flatMap natV) → (∀ z, Stays (fun j => j = wq.heap.size) WB z → CellsAt z (some ⟨wq.heap.size, 0, none⟩) (l.flatMap natV)) → l.length ≤ 1 → (∀ y ∈ l, y < cs.length) → l.Nodup →
            Calls Tryz.prog 20 #[.slice (some ⟨wq.heap.size, 0, none⟩) ln 1, .pointer (some ⟨A2, 0, none⟩), .pointer (some ⟨A1, 0, none⟩), .pointer (some ⟨A3, 0, none⟩)] WB fun e w' => e = .returned (.bool true) ∧ LawG W0 w' s x0 p A1 A2 A3 (cs ++ [(l, 0)]) 0 0 := fun l ln hn c1 c2 c3 c4 c5 => by
          subst hn
          exact (gAdd (P.below hbB) l (some ⟨wq.heap.size, 0, none⟩) 1 c3 (by unfold maxLen; omega) (fun j => j = wq.heap.size) ⟨fun j hj => by have e : j = wq.heap.size := hj; omega, c2⟩ (fun j hj => by have e : j = wq.heap.size := hj; subst e; exact ⟨hBw, hnotE, hnotO⟩) (fun b off e => by cases e; exact ⟨hnotE, hzB, hnotO⟩) c4 c5 (by omega) (by omega)).mono fun e w' ⟨h1, h2, _⟩ => ⟨h1, h2⟩
        have hwm : IntKind.i64.wrap ((i : Int) - 1) = (i : Int) - 1 := by rw [IntWalk.i64_in _ (by omega)]
        have HWB := Lib.hid hWB
        by_cases h0 : i = 0
        · have HA := Lib.hid (hAdd [] 0 rfl (CellsAt.nil _ _) (fun z _ => CellsAt.nil _ _) (by simp) (by simp) (by simp))
          have hmn1 : min (i : Int) 1 = 0 := by omega
          have hmn2 : (if (i : Int) ≤ 1 then (i : Int) else 1) = 0 := by split <;> omega
          have HCN := Lib.hid (show (cs ++ [(([] : List Nat), 0)]).length = i + 1 from by rw [List.length_append, hcl]; rfl)
          clear P hbB hsB hzB hBw hcl hnotE hnotO hAdd h0 hWB
          go_wp2_with fail
          rw [HWB.out]
          (with_reducible refine HA.out.mono ?_)
          rintro e w9 ⟨rfl, hl9⟩
          have HL9 := Lib.hid hl9
          clear hl9
          go_wp2
          go_roundw
          case rel => exact ⟨i + 1, _, by omega, by go_num, Lib.hid HCN.out, HL9.out⟩
          case measure => simp [intOf]; omega
        · have hce : ([i - 1].flatMap natV : List Value) = [.int .i64 ((i : Int) - 1)] := by
            show [Value.int .i64 ((i - 1 : Nat) : Int)] = _
            congr 2
            omega
          have hcz : ∀ z : World, WB.heap.size ≤ z.heap.size → z.heap[wq.heap.size]? = WB.heap[wq.heap.size]? → CellsAt z (some ⟨wq.heap.size, 0, none⟩) ([i - 1].flatMap natV) := fun z hz hb => by
            rw [hce]
            intro j u hu
            have hj : j = 0 := by have := (List.getElem?_eq_some_iff.1 hu).1; simpa using this
            subst hj
            refine ⟨wq.heap.size, 0, rfl, by omega, ?_⟩
            rw [cell_of_row _ _ _ _ _ _ (hb.trans hsB)]
            exact hu
          have HA := Lib.hid (hAdd [i - 1] 1 rfl (hcz WB (Nat.le_refl _) rfl) (fun z hz => hcz z hz.2 (hz.1 _ rfl)) (by simp) (by simp; omega) (by simp))
          have hmn1 : min (i : Int) 1 = 1 := by omega
          have hmn2 : (if (i : Int) ≤ 1 then (i : Int) else 1) = 1 := by split <;> omega
          have HCN := Lib.hid (show (cs ++ [([i - 1], 0)]).length = i + 1 from by rw [List.length_append, hcl]; rfl)
          clear P hbB hsB hzB hBw hcl hnotE hnotO hAdd h0 hWB hce hcz
          go_wp2_with fail
          rw [HWB.out]
          (with_reducible refine HA.out.mono ?_)
          rintro e w9 ⟨rfl, hl9⟩
          have HL9 := Lib.hid hl9
          clear hl9
          go_wp2
          go_roundw
          case rel => exact ⟨i + 1, _, by omega, by go_num, Lib.hid HCN.out, HL9.out⟩
          case measure => simp [intOf]; omega
      · obtain rfl : i = line := by omega
        have HL1 := Lib.hid hlaw
        clear hlaw HP7
        go_wp2_with fail
        go_loopw [10, 78] (fun xv iv wr => ∃ (j : Nat) (cs : List ComP) (x k : Nat), j ≤ m ∧ xv = .pointer (some ⟨x, 0, none⟩) ∧ iv = .int .i64 j ∧ Hid (cs.length = i + j) ∧ LawG W0 wr s x p A1 A2 A3 cs k j) (fun _ iv _ => m - (intOf iv).toNat)
        case atStart =>
          obtain ⟨E, H, T, gs, gv, nv, L, P⟩ := HL1.out
          exact ⟨0, cs, x0, 0, Nat.zero_le _, rfl, rfl, Lib.hid (by rw [HCS.out]; rfl), P.law⟩
        case round =>
          clear HL1 HCS hi hlt
          obtain ⟨j, cs, x, k, hj, rfl, rfl, HCS, hlaw⟩ := hrel
          obtain ⟨wq, hwq⟩ : ∃ wq : World, wq = wr := ⟨_, rfl⟩
          subst hwq
          by_cases hlt : j < m
          · obtain ⟨E, H, T, gs, gv, nv, L, P⟩ := hlaw
            have hjs : j < steps.length := by omega
            obtain ⟨b, off, rfl, _, hce⟩ := (HST.out.stays (x := wq) (fun b off e h0 => by
              obtain ⟨b', off', e1, e2, _⟩ := HST.out.elem stepW hjs (by decide)
              rw [e] at e1
              cases e1
              exact P.bel.block b e2) P.bel.size).elem stepW hjs (by decide)
            have hyok := HOK.out _ (List.getElem_mem hjs)
            obtain ⟨y, hy⟩ : ∃ y, steps[j] = y := ⟨_, rfl⟩
            rw [hy] at hce hyok
            obtain ⟨ytv, ypv, ytree, ypars, yidx, ynm, yat⟩ := y
            obtain ⟨ta, tc, htv, _, _, _, _⟩ := hyok.tree
            obtain ⟨pa, pc, hpv, hpl, hpm, hpi⟩ := hyok.pars
            obtain ⟨bs, hbs, hb8, hbc⟩ := bytes_nat hpi
            simp only at hpv hpl hpi hbs htv
            subst hpv htv
            obtain ⟨yi, hyi⟩ := Int.eq_ofNat_of_zero_le hyok.idx.1
            simp only at hyi
            subst hyi
            have hbl : ypars.length = bs.length := by rw [hbs, List.length_map]
            have d0 := hce 0 _ rfl; have d1 := hce 1 _ rfl; have d2 := hce 2 _ rfl; have d3 := hce 3 _ rfl; have d4 := hce 4 _ rfl
            simp only [Nat.add_zero] at d0 d1 d2 d3 d4
            rw [hbl] at d1 hpl
            obtain ⟨WY, hWY⟩ : ∃ WY, wq.alloc (.cells #[.slice ta ytree.length tc, .slice pa bs.length pc, .int .u8 ((yi : Nat) : Int), .int .u8 ynm, .int .u16 yat] 37) = WY := ⟨_, rfl⟩
            have hbY : Below wq.heap.size wq WY := by rw [← hWY]; exact bl_alloc (Below.refl _ _) _
            have hsY : WY.heap[wq.heap.size]? = some (.cells #[.slice ta ytree.length tc, .slice pa bs.length pc, .int .u8 ((yi : Nat) : Int), .int .u8 ynm, .int .u16 yat] 37 (0, 0)) := by rw [← hWY]; exact heap_alloc_new _ _
            have PY := P.below hbY
            obtain ⟨gxa, gxc, hgv⟩ := PY.form
            have hclen := HCS.out
            have hcY : CellsAt WY pa (bs.map fun p => .int .u8 (p : Nat)) := hbc.stays (fun b off e h0 => by
              obtain ⟨b', off', e1, e2, _⟩ := hbc 0 _ (List.getElem?_eq_getElem h0)
              rw [e] at e1
              cases e1
              exact PY.bel.block b e2) PY.bel.size
            have HPa := Lib.hid (zParents (.slice ta ytree.length tc) pa pc bs hb8 hpl hpm ((yi : Nat) : Int) ynm yat cs.length (by omega) WY hcY)
            have cA1 := PY.cells.2.1
            rw [hgv] at cA1
            have y0 : WY.cell? ⟨wq.heap.size, 0, none⟩ = some (.slice ta ytree.length tc) := by rw [cell_of_row _ _ _ _ _ _ hsY]; rfl
            have y1 : WY.cell? ⟨wq.heap.size, 1, none⟩ = some (.slice pa bs.length pc) := by rw [cell_of_row _ _ _ _ _ _ hsY]; rfl
            have y2 : WY.cell? ⟨wq.heap.size, 2, none⟩ = some (.int .u8 ((yi : Nat) : Int)) := by rw [cell_of_row _ _ _ _ _ _ hsY]; rfl
            have y3 : WY.cell? ⟨wq.heap.size, 3, none⟩ = some (.int .u8 ynm) := by rw [cell_of_row _ _ _ _ _ _ hsY]; rfl
            have y4 : WY.cell? ⟨wq.heap.size, 4, none⟩ = some (.int .u16 yat) := by rw [cell_of_row _ _ _ _ _ _ hsY]; rfl
            have HWY := Lib.hid hWY; have HPY := Lib.hid PY; have HSY2 := Lib.hid hsY; have HZQ := Lib.hid (show wq.heap.size < WY.heap.size ∧ W0.heap.size ≤ wq.heap.size ∧ ∀ j, E j → j < wq.heap.size from ⟨(Array.getElem?_eq_some_iff.1 hsY).1, P.bel.size, P.whole.lt⟩)
            have HLO := Lib.hid (show ∀ j ∈ A1 :: A2 :: A3 :: (gv.ownBlock.toList ++ nv.ownBlock.toList), j < wq.heap.size from fun j hj => (P.low j hj).2.1)
            have hyi5 : yi < 256 := by have := hyok.idx.2; simp only at this; omega
            clear P hce hyok hy hpi hbs hbc hb8 hbl hWY hbY hsY PY hcY hgv hclen hpl hpm
            go_upto_region 25 with (fail)
            rw [HWY.out]
            go_wp2_with fail
            (with_reducible refine HPa.out.mono ?_)
            rintro e w5 ⟨v5, rfl, ho5, hb5⟩
            obtain ⟨hpl16, hplow, hpnd⟩ := parF_ok cs.length bs
            generalize parF cs.length bs = l at *
            obtain ⟨va, vc, rfl, hvc, hvl, hvm, hvb, _⟩ := ho5.sl
            have P5 := HPY.out.below hb5
            have hzq := HZQ.out
            have hclen := HCS.out
            have HA := Lib.hid (gAdd P5 l va vc hvl hvm (fun j => (Value.slice va l.length vc).ownBlock = some j) ⟨fun j hj => (ho5.lt j hj).2, fun z hz => by
              obtain ⟨a', c', e1, e2, _⟩ := (ho5.stays fun g e => hz.1 g e).sl
              obtain ⟨rfl, _, rfl⟩ := Value.slice.inj e1
              exact e2⟩ (fun j hj => by
              have h1 := (ho5.lt j hj).1
              exact ⟨by omega, fun e => by have := hzq.2.2 j e; omega, fun e => by have := HLO.out j e; omega⟩) (fun b off e => by
              have h1 := ho5.lt b (hvb b off e)
              exact ⟨fun e => by have := hzq.2.2 b e; omega, h1.2, fun e => by have := HLO.out b e; omega⟩) hplow hpnd hpl16 (by omega))
            have HB5 := Lib.hid hb5
            have HC6 := Lib.hid (show (cs ++ [(l, 0)]).length = i + (j + 1) from by rw [List.length_append, hclen]; simp; omega)
            obtain ⟨cs6, hcs6⟩ : ∃ cs6, cs ++ [(l, 0)] = cs6 := ⟨_, rfl⟩
            rw [hcs6] at HA HC6
            clear hcs6 ho5 hb5 hvc hvb P5 hzq hclen hplow hpnd y0 y1 y2 y3 y4 cA1 d0 d1 d2 d3 d4
            go_wp2_with fail
            (with_reducible refine HA.out.mono ?_)
            rintro e w6 ⟨rfl, hl6, hfr6⟩
            have hbx : w6.heap[wq.heap.size]? = _ := (hfr6 wq.heap.size (by have := HZQ.out.1; have := HB5.out.size; omega) (fun e => by have := HZQ.out.2.2 _ e; omega) (fun e => by have := HLO.out _ e; omega)).trans ((HB5.out.block _ HZQ.out.1).trans HSY2.out)
            have y2 : w6.cell? ⟨wq.heap.size, 2, none⟩ = some (.int .u8 ((yi : Nat) : Int)) := by rw [cell_of_row _ _ _ _ _ _ hbx]; rfl
            obtain ⟨E6, H6, T6, gs6, gv6, nv6, L6, P6⟩ := hl6
            obtain ⟨ga6, gc6, rfl⟩ := P6.form
            have HP6 := Lib.hid P6
            have hcl6 : cs6.length ≤ 1200 ∧ 0 < cs6.length := by have := HC6.out; omega
            clear hfr6 hbx P6 HA HB5 HSY2 HLO HZQ HPY HPa HWY
            have hr5 : yi % 5 = 0 ∨ yi % 5 = 1 ∨ yi % 5 = 2 ∨ yi % 5 = 3 ∨ yi % 5 = 4 := by omega
            rcases hr5 with hr | hr | hr | hr | hr
            · have hr1 : ((yi : Nat) : Int) % 5 = 0 := by omega
              clear hr
              have HPd := Lib.hid (HP6.out.below (bl_drew (Below.refl _ _)))
              have HUs := Lib.hid (fun W => zUsual W)
              have HPa := Lib.hid True.intro; have HPb := Lib.hid True.intro; have HPc := Lib.hid True.intro
              have HUp := Lib.hid (fun W (hP : LawP W0 W s x p A1 A2 A3 cs6 k j E6 H6 T6 gs6 (.slice ga6 cs6.length gc6) nv6 L6) => pUpdate hP hcl6.1 (by omega))
              unfold srcV at HUp
              go_wp2_with fail
              go_region_held3 (fun Y => Y.cell? ⟨A3, 0, none⟩ = some (.pointer (some ⟨s, 0, none⟩)) ∧ Y.cell? ⟨A1, 0, none⟩ = some (.slice ga6 cs6.length gc6))
                (first | exact ⟨HPc.out.cells.1, HPc.out.cells.2.1⟩ | exact ⟨HPb.out.cells.1, HPb.out.cells.2.1⟩ | exact ⟨HPa.out.cells.1, HPa.out.cells.2.1⟩ | exact ⟨HPd.out.cells.1, HPd.out.cells.2.1⟩)
                (first
                  | (go_at_call 14; (with_reducible refine (HUs.out _).mono ?_); rintro e w7a ⟨rfl, hb⟩; have HPa := Lib.hid (HPd.out.below hb); clear hb)
                  | (go_at_call 12; (with_reducible refine (HUp.out _ HPa.out).mono ?_); rintro e w8 ⟨rfl, E8, gs8, hP⟩; have HPb := Lib.hid hP; clear hP)
                  | (go_at_call 16; (with_reducible refine (wLen HPb.out.whole hcl6.1).mono ?_); rintro e w9 ⟨rfl, hb⟩; have HPc := Lib.hid (HPb.out.below hb); clear hb))
              all_goals
                go_wp2
                go_roundw
                case rel => exact ⟨j + 1, cs6, x, cs6.length, by omega, rfl, by go_num, Lib.hid HC6.out, HPc.out.law⟩
                case measure => simp [intOf]; omega
            · have hr1 : ((yi : Nat) : Int) % 5 = 1 := by omega
              clear hr
              have HPd := Lib.hid (HP6.out.below (bl_drew (Below.refl _ _)))
              have HUs := Lib.hid (fun W => zUsual W)
              have HPa := Lib.hid True.intro; have HPb := Lib.hid True.intro; have HPc := Lib.hid True.intro
              have HUp := Lib.hid (fun W (hP : LawP W0 W s x p A1 A2 A3 cs6 k j E6 H6 T6 gs6 (.slice ga6 cs6.length gc6) nv6 L6) => pUpdate hP hcl6.1 (by omega))
              unfold srcV at HUp
              go_wp2_with fail
              go_region_held3 (fun Y => Y.cell? ⟨A3, 0, none⟩ = some (.pointer (some ⟨s, 0, none⟩)) ∧ Y.cell? ⟨A1, 0, none⟩ = some (.slice ga6 cs6.length gc6))
                (first | exact ⟨HPc.out.cells.1, HPc.out.cells.2.1⟩ | exact ⟨HPb.out.cells.1, HPb.out.cells.2.1⟩ | exact ⟨HPa.out.cells.1, HPa.out.cells.2.1⟩ | exact ⟨HPd.out.cells.1, HPd.out.cells.2.1⟩)
                (first
                  | (go_at_call 14; (with_reducible refine (HUs.out _).mono ?_); rintro e w7a ⟨rfl, hb⟩; have HPa := Lib.hid (HPd.out.below hb); clear hb)
                  | (go_at_call 12; (with_reducible refine (HUp.out _ HPa.out).mono ?_); rintro e w8 ⟨rfl, E8, gs8, hP⟩; have HPb := Lib.hid hP; clear hP)
                  | (go_at_call 16; (with_reducible refine (wLen HPb.out.whole hcl6.1).mono ?_); rintro e w9 ⟨rfl, hb⟩; have HPc := Lib.hid (HPb.out.below hb); clear hb))
              all_goals
                go_wp2
                go_roundw
                case rel => exact ⟨j + 1, cs6, x, cs6.length, by omega, rfl, by go_num, Lib.hid HC6.out, HPc.out.law⟩
                case measure => simp [intOf]; omega
            · have hr1 : ((yi : Nat) : Int) % 5 = 2 := by omega
              clear hr
              have HPd := Lib.hid (HP6.out.below (bl_drew (Below.refl _ _)))
              have HUs := Lib.hid (fun W => zUsual W)
              have HPa := Lib.hid True.intro; have HPb := Lib.hid True.intro; have HPc := Lib.hid True.intro
              have HUp := Lib.hid (fun W (hP : LawP W0 W s x p A1 A2 A3 cs6 k j E6 H6 T6 gs6 (.slice ga6 cs6.length gc6) nv6 L6) => pCompact hP hcl6.1 hcl6.2 (by omega))
              unfold srcV at HUp
              go_wp2_with fail
              go_region_held3 (fun Y => Y.cell? ⟨A3, 0, none⟩ = some (.pointer (some ⟨s, 0, none⟩)) ∧ Y.cell? ⟨A1, 0, none⟩ = some (.slice ga6 cs6.length gc6))
                (first | exact ⟨HPc.out.cells.1, HPc.out.cells.2.1⟩ | exact ⟨HPb.out.cells.1, HPb.out.cells.2.1⟩ | exact ⟨HPa.out.cells.1, HPa.out.cells.2.1⟩ | exact ⟨HPd.out.cells.1, HPd.out.cells.2.1⟩)
                (first
                  | (go_at_call 14; (with_reducible refine (HUs.out _).mono ?_); rintro e w7a ⟨rfl, hb⟩; have HPa := Lib.hid (HPd.out.below hb); clear hb)
                  | (go_at_call 13; (with_reducible refine (HUp.out _ HPa.out).mono ?_); rintro e w8 ⟨rfl, E8, hP⟩; have HPb := Lib.hid hP; clear hP)
                  | (go_at_call 21; (with_reducible refine (pOne HPb.out).mono ?_); rintro e w9 ⟨⟨la9, lc9, rfl⟩, hb⟩; have HPc := Lib.hid (HPb.out.below hb); clear hb))
              all_goals
                go_wp2
                go_roundw
                case rel => exact ⟨j + 1, cs6, x, cs6.length, by omega, rfl, by go_num, Lib.hid HC6.out, HPc.out.law⟩
                case measure => simp [intOf]; omega
            · have hr1 : ((yi : Nat) : Int) % 5 = 3 := by omega
              clear hr
              have HOp6 := Lib.hid (pOpen HP6.out hcl6.1)
              have c16 := HP6.out.cells.2.1
              go_wp2_with fail
              (with_reducible refine HOp6.out.mono ?_)
              rintro e w7 ⟨rfl, E7, hP⟩
              have HPc := Lib.hid (hP.more (Nat.le_succ _)).law
              clear hP c16
              go_wp2
              go_roundw
              case rel => exact ⟨j + 1, cs6, _, k, by omega, rfl, by go_num, Lib.hid HC6.out, HPc.out⟩
              case measure => simp [intOf]; omega
            · have hr1 : ((yi : Nat) : Int) % 5 = 4 := by omega
              clear hr
              go_wp2
              go_roundw
              case rel => exact ⟨j + 1, cs6, x, k, by omega, rfl, by go_num, Lib.hid HC6.out, (HP6.out.more (Nat.le_succ _)).law⟩
              case measure => simp [intOf]; omega
          · obtain rfl : j = m := by omega
            obtain ⟨E, H, T, gs, gv, nv, L, P⟩ := hlaw
            obtain ⟨ga, gc, rfl⟩ := P.form
            have hcl : cs.length ≤ 1200 := by have := HCS.out; omega
            have HP := Lib.hid P
            have HPd := Lib.hid (P.below (bl_drew (Below.refl _ _)))
            have HUs := Lib.hid (fun W => zUsual W)
            have HPa := Lib.hid True.intro; have HPb := Lib.hid True.intro; have HPc := Lib.hid True.intro; have HPe := Lib.hid True.intro
            have HUp := Lib.hid (fun W (hP : LawP W0 W s x p A1 A2 A3 cs k j E H T gs (.slice ga cs.length gc) nv L) => pUpdate hP hcl (by omega))
            unfold srcV at HUp
            clear P hj hlt
            go_wp2_with fail
            go_region_held3 (fun Y => Y.cell? ⟨A3, 0, none⟩ = some (.pointer (some ⟨s, 0, none⟩)) ∧ Y.cell? ⟨A1, 0, none⟩ = some (.slice ga cs.length gc))
              (first | exact ⟨HPe.out.cells.1, HPe.out.cells.2.1⟩ | exact ⟨HPc.out.cells.1, HPc.out.cells.2.1⟩ | exact ⟨HPb.out.cells.1, HPb.out.cells.2.1⟩ | exact ⟨HPa.out.cells.1, HPa.out.cells.2.1⟩ | exact ⟨HPd.out.cells.1, HPd.out.cells.2.1⟩)
              (first
                | (go_at_call 14; (with_reducible refine (HUs.out _).mono ?_); rintro e w7a ⟨rfl, hb⟩; have HPa := Lib.hid (HPd.out.below hb); clear hb)
                | (go_at_call 12; (with_reducible refine (HUp.out _ HPa.out).mono ?_); rintro e w8 ⟨rfl, E8, gs8, hP⟩; have HPb := Lib.hid hP; have hg8 := (wLayers hP.whole).1; have hgd : decide ((gs8.length : Int) > 8) = false := (by rw [decide_eq_false_iff_not]; omega); have hgd2 : decide ((8 : Int) < (gs8.length : Int)) = false := (by rw [decide_eq_false_iff_not]; omega); have hgd3 : decide (8 < gs8.length) = false := (by rw [decide_eq_false_iff_not]; omega); clear hP)
                | (go_at_call 16; (with_reducible refine (wLen HPb.out.whole hcl).mono ?_); rintro e w9 ⟨rfl, hb⟩; have HPc := Lib.hid (HPb.out.below hb); clear hb)
                | (go_at_call 21; (with_reducible refine (wLayers HPc.out.whole).2.mono ?_); rintro e w10 ⟨⟨la9, lc9, rfl⟩, hb⟩; have HPe := Lib.hid (HPc.out.below hb); clear hb))
            all_goals
              have c1 := HPe.out.cells.2.1
              clear hgd hgd2 hgd3 hg8
              go_wp2_with fail
              go_loopw [152] (fun iv wr => ∃ n : Nat, n ≤ cs.length ∧ iv = .int .i64 n ∧ Below w10.heap.size w10 wr) (fun iv _ => cs.length - (intOf iv).toNat)
              case atStart => exact ⟨0, Nat.zero_le _, rfl, Below.refl _ _⟩
              case round =>
                obtain ⟨n, hn, rfl, hbel⟩ := hrel
                obtain ⟨wq, hwq⟩ : ∃ wq : World, wq = wr := ⟨_, rfl⟩
                subst hwq
                have HB := Lib.hid hbel
                clear hbel c1
                by_cases hlt : n < cs.length
                · obtain ⟨Q, hRow⟩ := wRow (HPe.out.below HB.out).whole hcl n hlt
                  have HRow := Lib.hid hRow; have HNLT := Lib.hid hlt
                  clear hRow
                  go_wp2_with fail
                  (with_reducible refine HRow.out.mono ?_)
                  rintro e w11 ⟨pa, pc, rfl, hop, hb11⟩
                  obtain ⟨W12, hW12⟩ : ∃ W12, w11.alloc (.cells #[.slice pa (rowN Q [[]] cs n).parents.length pc, .int .i64 ((rowN Q [[]] cs n).tree : Nat), .int .i64 ((rowN Q [[]] cs n).gen : Nat), .int .i64 ((rowN Q [[]] cs n).st : Nat), .string (rowN Q [[]] cs n).bits] 63) = W12 := ⟨_, rfl⟩
                  have hb12 : Below w11.heap.size w11 W12 := by rw [← hW12]; exact bl_alloc (Below.refl _ _) _
                  have hs12 : W12.heap[w11.heap.size]? = some (.cells #[.slice pa (rowN Q [[]] cs n).parents.length pc, .int .i64 ((rowN Q [[]] cs n).tree : Nat), .int .i64 ((rowN Q [[]] cs n).gen : Nat), .int .i64 ((rowN Q [[]] cs n).st : Nat), .string (rowN Q [[]] cs n).bits] 63 (0, 0)) := by rw [← hW12]; exact heap_alloc_new _ _
                  have hb1012 : Below w10.heap.size w10 W12 := bl_trans (bl_trans HB.out hb11) hb12
                  have P12 := HPe.out.below hb1012
                  obtain ⟨xa, xc, ya, yc, b, off, nb, no, ra, rc, e1, e2, e3, e4, e5, e6, e7, e8, e9, e10⟩ := P12.reads hlt Q
                  have hpc : CellsAt W12 pa ((rowN Q [[]] cs n).parents.flatMap natV) := by
                    obtain ⟨a', c', k1, k2, _⟩ := (hop.below hb12).sl
                    obtain ⟨rfl, _, rfl⟩ := Value.slice.inj k1
                    exact k2
                  have c1 := P12.cells.2.1
                  have c2 := P12.cells.2.2
                  rw [e1] at c1
                  rw [e2] at c2
                  subst e3 e4
                  have k0 : W12.cell? ⟨w11.heap.size, 0, none⟩ = some (.slice pa (rowN Q [[]] cs n).parents.length pc) := by rw [cell_of_row _ _ _ _ _ _ hs12]; rfl
                  have k1 : W12.cell? ⟨w11.heap.size, 1, none⟩ = some (.int .i64 0) := by rw [cell_of_row _ _ _ _ _ _ hs12, e8]; rfl
                  have k2 : W12.cell? ⟨w11.heap.size, 2, none⟩ = some (.int .i64 ((rowN Q [[]] cs n).gen : Nat)) := by rw [cell_of_row _ _ _ _ _ _ hs12]; rfl
                  have HW12 := Lib.hid hW12; have HB12 := Lib.hid hb1012
                  have hr16 : (rowN Q [[]] cs n).parents.length ≤ 16 := (HPe.out.whole.good.getD hlt).1.few
                  clear hop hb11 hW12 hb12 hs12 hb1012 P12 e1 e2 e8 e9 e10 HRow
                  generalize rowN Q [[]] cs n = r at *
                  have HPC := Lib.hid hpc; have HRC := Lib.hid e6
                  clear hpc e6
                  have hn0 : (0 : Int) ≤ (n : Int) := by omega
                  have hn1 : (n : Int) < (cs.length : Int) := by omega
                  go_upto_region 46 with (fail)
                  rw [HW12.out]
                  go_region_held3 (fun Y => Y.cell? ⟨w11.heap.size, 0, none⟩ = some (.slice pa r.parents.length pc) ∧ Y.cell? ⟨w11.heap.size, 1, none⟩ = some (.int .i64 0) ∧ Y.cell? ⟨w11.heap.size, 2, none⟩ = some (.int .i64 (r.gen : Nat)) ∧ Y.cell? ⟨A2, 0, none⟩ = some (.slice (some ⟨nb, no, none⟩) cs.length yc) ∧ Y.cell? ⟨A1, 0, none⟩ = some (.slice (some ⟨b, off, none⟩) cs.length xc) ∧ Y.cell? ⟨nb, no + n, none⟩ = some (.int .i64 (r.gen : Nat)) ∧ Y.cell? ⟨b, off + n, none⟩ = some (.slice ra r.parents.length rc))
                    (exact ⟨k0, k1, k2, c2, c1, e7, e5⟩) (fail)
                  obtain ⟨WZ, hWZ⟩ : ∃ WZ, W12.drew = WZ := ⟨_, rfl⟩
                  have hbZ : Below W12.heap.size W12 WZ := by rw [← hWZ]; exact bl_drew (Below.refl _ _)
                  have z0 := bl_cell hbZ k0; have z1 := bl_cell hbZ c1; have z2 := bl_cell hbZ e5
                  have HPZ := Lib.hid (HPC.out.below hbZ); have HRZ := Lib.hid (HRC.out.below hbZ); have HBZ := Lib.hid (bl_trans HB12.out hbZ)
                  clear k0 k1 k2 c1 c2 e5 e7 hbZ
                  go_upto_region 48 with (fail)
                  rw [hWZ]
                  clear hWZ
                  go_wp2_with fail
                  go_loopw [193] (fun iv wr => ∃ i : Nat, i ≤ r.parents.length ∧ iv = .int .i64 i ∧ WZ = wr) (fun iv _ => r.parents.length - (intOf iv).toNat)
                  case atStart => exact ⟨0, Nat.zero_le _, rfl, rfl⟩
                  case round =>
                    obtain ⟨i2, hi2, rfl, rfl⟩ := hrel
                    by_cases hlt2 : i2 < r.parents.length
                    · obtain ⟨pb, po, rfl, _, q1⟩ := nat_cells HPZ.out hlt2
                      obtain ⟨rb, ro, rfl, _, q2⟩ := nat_cells HRZ.out hlt2
                      have HLT2 := Lib.hid hlt2
                      generalize r.parents[i2] = pv at *
                      go_wp2
                      go_roundw
                      case rel => exact ⟨i2 + 1, by have := HLT2.out; omega, by go_num, by first | rfl | trivial⟩
                      case measure => (have := HLT2.out; simp [intOf]; omega)
                    · obtain rfl : i2 = r.parents.length := by omega
                      clear z0 z1 z2
                      go_wp2
                      go_roundw
                      case rel => exact ⟨n + 1, by have := HNLT.out; omega, by go_num, HBZ.out⟩
                      case measure => (have := HNLT.out; simp [intOf]; omega)
                · obtain rfl : n = cs.length := by omega
                  have HEND := Lib.hid ((HPe.out.below HB.out).bel)
                  go_wp2
                  go_ret
                  exact ⟨rfl, HEND.out⟩
end Go.Proofs.YtneheimdonlbbaaGreatDoor
