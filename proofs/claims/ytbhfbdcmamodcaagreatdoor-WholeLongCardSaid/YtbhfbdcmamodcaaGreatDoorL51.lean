/- WholeGenerations, plain: what its own boxes hold, beside the whole; WholeGenerations: its closure that adds a commit; WholeGenerations: what its calls leave; WholeRoads: the whole on a road, call by call. -/
import Derived.Test.YtbhfbdcmamodcaaGreatDoorL34
import Derived.Test.YtbhfbdcmamodcaaGreatDoorL48
import Derived.Test.YtbhfbdcmamodcaaGreatDoorL45
import Derived.Test.YtbhfbdcmamodcaaGreatDoorL46
import Derived.Test.YtbhfbdcmamodcaaGreatDoorL25
import Derived.Test.YtbhfbdcmamodcaaGreatDoorL31
import Derived.Deep.AppendLies
import Derived.Deep.RegionLaw
import Derived.BigQuiet
set_option linter.unusedVariables false
set_option linter.unusedSimpArgs false
namespace Go.Proofs.YtbhfbdcmamodcaaGreatDoor
open Go.RowKit Go.Maps TrMath FrMath PackMath SumMath
theorem disk_new (w : World) : Disk (((w.alloc (.map #[] 0)).alloc (.map #[] 0)).alloc (.cells #[.int .i64 (16777216 : Nat), .int .i64 0, .map (some w.heap.size), .map (some (w.heap.size + 1)), .slice none 0 0, .int .i64 0, .bool false] 73)) (w.heap.size + 2) (fun k => k = w.heap.size + 2 ∨ k = w.heap.size) [] 0 := by
  have hz : ((w.alloc (.map #[] 0)).alloc (.map #[] 0)).heap.size = w.heap.size + 2 := by simp
  refine ⟨⟨w.heap.size, .slice none 0 0, 0, []⟩, ⟨⟨0, w.heap.size + 1, ?_⟩, ⟨.map [], ?_, Reads.empty⟩, ⟨[], World.ownsRow_nil _ _ _ _⟩, by simp, by unfold DiskS.own; simp [Value.ownBlock]⟩, ?_, rfl, Nat.le_refl _⟩
  · have := heap_alloc_new ((w.alloc (.map #[] 0)).alloc (.map #[] 0)) (.cells #[.int .i64 (16777216 : Nat), .int .i64 0, .map (some w.heap.size), .map (some (w.heap.size + 1)), .slice none 0 0, .int .i64 0, .bool false] 73)
    rw [hz] at this
    exact this
  · refine map_stays (World.ownsMap_made w Tryz.prog 9 fileR) ?_
    rw [Below.heap_alloc _ _ _ (show w.heap.size < ((w.alloc (.map #[] 0)).alloc (.map #[] 0)).heap.size by rw [hz]; omega), Below.heap_alloc _ _ _ (show w.heap.size < (w.alloc (.map #[] 0)).heap.size by simp)]
  · funext k
    unfold DiskS.own
    simp [Value.ownBlock]
abbrev RowE := Value × List Nat
def rowL (y : RowE) : List Value := [y.1]
structure OG (W6 W : World) (B2 : Nat) (lv0 gv0 lv gv : Value) (L : List RowE) (G : List Nat) : Prop where
  upd : Upd (fun k => lv0.ownBlock = some k ∨ gv0.ownBlock = some k) W6 W
  l : OwnX 42 1 rowL W B2 lv L
  g : OwnX 3 1 natV W B2 gv G
  ne : ∀ k, lv.ownBlock = some k → gv.ownBlock ≠ some k
  la : ∀ k, lv.ownBlock = some k → lv0.ownBlock = some k ∨ W6.heap.size ≤ k
  ga : ∀ k, gv.ownBlock = some k → gv0.ownBlock = some k ∨ W6.heap.size ≤ k
section
variable {W6 W Y : World} {B2 : Nat} {lv0 gv0 lv gv : Value} {L : List RowE} {G : List Nat}
theorem OG.below (h : OG W6 W B2 lv0 gv0 lv gv L G) (hb : Below W.heap.size W Y) : OG W6 Y B2 lv0 gv0 lv gv L G :=
  ⟨h.upd.thenB hb, h.l.below hb, h.g.below hb, h.ne, h.la, h.ga⟩
theorem OG.alloc (h : OG W6 W B2 lv0 gv0 lv gv L G) (o : Obj) : OG W6 (W.alloc o) B2 lv0 gv0 lv gv L G := h.below (bl_alloc (Below.refl _ _) o)
theorem OG.drew (h : OG W6 W B2 lv0 gv0 lv gv L G) : OG W6 W.drew B2 lv0 gv0 lv gv L G := h.below (bl_drew (Below.refl _ _))
end
structure LawP (W0 w : World) (s x p A1 A2 A3 : Nat) (cs : List ComP) (k nx : Nat) (E H : Foot) (T : List UInt8) (gs : List GraphP) (gv nv : Value) (L : List RowE) : Prop where
  whole : WholeAt w W0.heap.size s x p E [[]] cs T gs k nx
  b1 : w.heap[A1]? = some (.cells #[gv] 58 (0, 0))
  b2 : w.heap[A2]? = some (.cells #[nv] 42 (0, 0))
  b3 : w.heap[A3]? = some (.cells #[.pointer (some ⟨s, 0, none⟩)] 29 (0, 0))
  g : OwnX 42 1 rowL w W0.heap.size gv L
  gL : L.map Prod.snd = cs.map Prod.fst
  rows : ∀ y ∈ L, ∃ a c, y.1 = .slice a y.2.length c ∧ Lasts H w fun z => CellsAt z a (y.2.flatMap natV)
  n : OwnX 3 1 natV w W0.heap.size nv (gensN cs cs.length)
  bel : Below W0.heap.size W0 w
  own : (A1 :: A2 :: A3 :: (gv.ownBlock.toList ++ nv.ownBlock.toList)).Nodup
  low : ∀ j ∈ A1 :: A2 :: A3 :: (gv.ownBlock.toList ++ nv.ownBlock.toList), W0.heap.size ≤ j ∧ j < w.heap.size ∧ ¬ E j ∧ ¬ H j
  hlow : ∀ j, H j → W0.heap.size ≤ j ∧ j < w.heap.size ∧ ¬ E j
  tl : T.length ≤ 1000 + 100 * cs.length
  tr : ∀ c ∈ cs, c.2 = 0
def LawG (W0 w : World) (s x p A1 A2 A3 : Nat) (cs : List ComP) (k nx : Nat) : Prop := ∃ E H T gs gv nv L, LawP W0 w s x p A1 A2 A3 cs k nx E H T gs gv nv L
section
variable {W0 w w' : World} {s x x' p A1 A2 A3 : Nat} {cs : List ComP} {k k' nx nx' : Nat} {E E' H : Foot} {T : List UInt8} {gs gs' : List GraphP} {gv nv : Value} {L : List RowE}
theorem LawP.step (P : LawP W0 w s x p A1 A2 A3 cs k nx E H T gs gv nv L) (h : WholeAt w' W0.heap.size s x' p E' [[]] cs T gs' k' nx') (hg : Grew E E' w w') : LawP W0 w' s x' p A1 A2 A3 cs k' nx' E' H T gs' gv nv L := by
  have hst : ∀ j ∈ A1 :: A2 :: A3 :: (gv.ownBlock.toList ++ nv.ownBlock.toList), w'.heap[j]? = w.heap[j]? := fun j hj => by
    obtain ⟨_, h2, h3, _⟩ := P.low j hj
    exact hg.upd.block j h2 h3
  have hz := hg.upd.size
  have hE : ∀ j, j < w.heap.size → ¬ E j → ¬ E' j := fun j h1 h2 e => by
    rcases hg.sub j e with e | e
    · exact h2 e
    · omega
  have hH : Stays H w w' := ⟨fun j hj => by obtain ⟨_, h2, h3⟩ := P.hlow j hj; exact hg.upd.block j h2 h3, hz⟩
  have hB : W0.heap.size ≤ w.heap.size := P.bel.size
  refine ⟨h, (hst A1 (by simp)).trans P.b1, (hst A2 (by simp)).trans P.b2, (hst A3 (by simp)).trans P.b3, P.g.stays fun j e => hst j (by simp [e]), P.gL, fun y hy => ?_, P.n.stays fun j e => hst j (by simp [e]), P.bel.trans (hg.upd.below P.whole.low hB), P.own, fun j hj => ?_, fun j hj => ?_, P.tl, P.tr⟩
  · obtain ⟨a, c, h1, h2⟩ := P.rows y hy
    exact ⟨a, c, h1, h2.stays hH⟩
  · obtain ⟨h1, h2, h3, h4⟩ := P.low j hj
    exact ⟨h1, by omega, hE j h2 h3, h4⟩
  · obtain ⟨h1, h2, h3⟩ := P.hlow j hj
    exact ⟨h1, by omega, hE j h2 h3⟩
theorem LawP.below (P : LawP W0 w s x p A1 A2 A3 cs k nx E H T gs gv nv L) (hb : Below w.heap.size w w') : LawP W0 w' s x p A1 A2 A3 cs k nx E H T gs gv nv L :=
  P.step (P.whole.below hb) (Grew.same hb P.whole.lt)
theorem LawP.added {w7 w8 : World} {a : Option Addr} {c : Nat} {l : List Nat} {Hl : Foot} {gv' nv' : Value} {T' : List UInt8} (P : LawP W0 w s x p A1 A2 A3 cs k nx E H T gs gv nv L) (hu : Upd (fun j => j = A1 ∨ j = A2 ∨ gv.ownBlock = some j ∨ nv.ownBlock = some j) w w7)
    (b1 : w7.heap[A1]? = some (.cells #[gv'] 58 (0, 0))) (b2 : w7.heap[A2]? = some (.cells #[nv'] 42 (0, 0))) (g : OwnX 42 1 rowL w7 W0.heap.size gv' (L ++ [(.slice a l.length c, l)])) (n : OwnX 3 1 natV w7 W0.heap.size nv' (gensN cs cs.length ++ [nextG (l.map fun p => (gensN cs cs.length).getD p 0)]))
    (ga : ∀ j, gv'.ownBlock = some j → gv.ownBlock = some j ∨ w.heap.size ≤ j) (na : ∀ j, nv'.ownBlock = some j → nv.ownBlock = some j ∨ w.heap.size ≤ j) (ne : ∀ j, gv'.ownBlock = some j → nv'.ownBlock ≠ some j)
    (hl : Lasts Hl w fun z => CellsAt z a (l.flatMap natV)) (hHl : ∀ j, Hl j → W0.heap.size ≤ j ∧ ¬ E j ∧ j ∉ A1 :: A2 :: A3 :: (gv.ownBlock.toList ++ nv.ownBlock.toList))
    (h8 : WholeAt w8 W0.heap.size s x p E' [[]] (cs ++ [(l, 0)]) T' gs k nx) (hg8 : Grew E E' w7 w8) (hT : T'.length ≤ T.length + 100) : LawG W0 w8 s x p A1 A2 A3 (cs ++ [(l, 0)]) k nx := by
  have hB : W0.heap.size ≤ w.heap.size := P.bel.size
  have hz7 := hu.size
  have hz8 := hg8.upd.size
  have hgo : ∀ j, gv.ownBlock = some j → j ∈ A1 :: A2 :: A3 :: (gv.ownBlock.toList ++ nv.ownBlock.toList) := fun j e => by simp [e]
  have hno : ∀ j, nv.ownBlock = some j → j ∈ A1 :: A2 :: A3 :: (gv.ownBlock.toList ++ nv.ownBlock.toList) := fun j e => by simp [e]
  have lA : ∀ j ∈ A1 :: A2 :: A3 :: (gv'.ownBlock.toList ++ nv'.ownBlock.toList), j ∈ A1 :: A2 :: A3 :: (gv.ownBlock.toList ++ nv.ownBlock.toList) ∨ w.heap.size ≤ j := fun j hj => by
    simp only [List.mem_cons, List.mem_append, Option.mem_toList] at hj
    rcases hj with e | e | e | e | e
    · exact .inl (by simp [e])
    · exact .inl (by simp [e])
    · exact .inl (by simp [e])
    · exact (ga j e).imp (hgo j) id
    · exact (na j e).imp (hno j) id
  have hE7 : ∀ j, E j → j < w.heap.size := P.whole.lt
  have n8 : ∀ j, j < w7.heap.size → ¬ E j → w8.heap[j]? = w7.heap[j]? ∧ ¬ E' j := fun j h1 h2 => ⟨hg8.upd.block j h1 h2, fun e => by
    rcases hg8.sub j e with e | e
    · exact h2 e
    · omega⟩
  have lE : ∀ j ∈ A1 :: A2 :: A3 :: (gv'.ownBlock.toList ++ nv'.ownBlock.toList), ¬ E j := fun j hj e => by
    rcases lA j hj with h1 | h1
    · exact (P.low j h1).2.2.1 e
    · have := hE7 j e; omega
  have l7 : ∀ j ∈ A1 :: A2 :: A3 :: (gv'.ownBlock.toList ++ nv'.ownBlock.toList), j < w7.heap.size := fun j hj => by
    simp only [List.mem_cons, List.mem_append, Option.mem_toList] at hj
    rcases hj with e | e | e | e | e
    · have := (P.low A1 (by simp)).2.1; omega
    · have := (P.low A2 (by simp)).2.1; omega
    · have := (P.low A3 (by simp)).2.1; omega
    · exact (g.lt j e).2
    · exact (n.lt j e).2
  have hHst : ∀ j, j < w.heap.size → j ∉ A1 :: A2 :: A3 :: (gv.ownBlock.toList ++ nv.ownBlock.toList) → w7.heap[j]? = w.heap[j]? := fun j h1 h2 => hu.block j h1 fun e => h2 (by
    rcases e with e | e | e | e
    · simp [e]
    · simp [e]
    · exact hgo j e
    · exact hno j e)
  have hHo : ∀ j, H j → j ∉ A1 :: A2 :: A3 :: (gv.ownBlock.toList ++ nv.ownBlock.toList) := fun j hj hm => (P.low j hm).2.2.2 hj
  have hsH : Stays H w w8 := ⟨fun j hj => by
    obtain ⟨_, h2, h3⟩ := P.hlow j hj
    rw [(n8 j (by omega) h3).1, hHst j h2 (hHo j hj)], by omega⟩
  have hsl : Stays Hl w w8 := ⟨fun j hj => by
    obtain ⟨_, h2, h3⟩ := hHl j hj
    rw [(n8 j (by have := hl.1 j hj; omega) h2).1, hHst j (hl.1 j hj) h3], by omega⟩
  have hor : ∀ j, (H.or Hl) j → j < w8.heap.size := fun j hj => by
    rcases hj with hj | hj
    · have := (P.hlow j hj).2.1; omega
    · have := hl.1 j hj; omega
  have hA3 : w7.heap[A3]? = w.heap[A3]? := by
    obtain ⟨_, h2, _, _⟩ := P.low A3 (by simp)
    have hnd := P.own
    refine hu.block A3 h2 fun e => ?_
    simp only [List.nodup_cons, List.mem_cons, List.mem_append, Option.mem_toList, not_or] at hnd
    rcases e with e | e | e | e
    · exact hnd.1.2.1 e.symm
    · exact hnd.2.1.1 e.symm
    · exact hnd.2.2.1.1 e
    · exact hnd.2.2.1.2 e
  have hlen : gensN (cs ++ [(l, 0)]) (cs ++ [(l, 0)]).length = gensN cs cs.length ++ [nextG (l.map fun p => (gensN cs cs.length).getD p 0)] := by
    rw [List.length_append, List.length_singleton, gensN, gensN_mono cs _ _ (Nat.le_refl _)]
    have e : (cs ++ [(l, 0)]).getD cs.length ([], 0) = (l, 0) := by simp
    rw [e]
  refine ⟨E', H.or Hl, T', gs, gv', nv', L ++ [(.slice a l.length c, l)], h8, ((n8 A1 (l7 A1 (by simp)) (lE A1 (by simp))).1).trans b1, ((n8 A2 (l7 A2 (by simp)) (lE A2 (by simp))).1).trans b2, ((n8 A3 (l7 A3 (by simp)) (lE A3 (by simp))).1).trans (hA3.trans P.b3), g.stays fun j e => (n8 j (g.lt j e).2 (lE j (by simp [e]))).1, ?_, fun y hy => ?_, ?_, ?_, ?_, fun j hj => ?_, fun j hj => ?_, ?_, ?_⟩
  · rw [List.map_append, List.map_append, P.gL]; rfl
  · rcases List.mem_append.1 hy with hy | hy
    · obtain ⟨a', c', k1, k2⟩ := P.rows y hy
      exact ⟨a', c', k1, (k2.stays hsH).mono (fun j hj => .inl hj) hor⟩
    · rw [List.mem_singleton.1 hy]
      exact ⟨a, c, rfl, (hl.stays hsl).mono (fun j hj => .inr hj) hor⟩
  · rw [hlen]
    exact n.stays fun j e => (n8 j (n.lt j e).2 (lE j (by simp [e]))).1
  · exact (P.bel.trans (hu.below (fun j e => by
      rcases e with rfl | rfl | e | e
      · exact (P.low _ (by simp)).1
      · exact (P.low _ (by simp)).1
      · exact (P.low j (hgo j e)).1
      · exact (P.low j (hno j e)).1) hB)).trans (hg8.upd.below P.whole.low (by omega))
  · have hnd := P.own
    simp only [List.nodup_cons, List.mem_cons, List.mem_append, Option.mem_toList, not_or] at hnd ⊢
    obtain ⟨⟨d1, d2, d3, d4⟩, ⟨d5, d6, d7⟩, ⟨d8, d9⟩, _⟩ := hnd
    have hA1 := (P.low A1 (by simp)).2.1; have hA2 := (P.low A2 (by simp)).2.1; have hA3 := (P.low A3 (by simp)).2.1
    have fg : ∀ A, A < w.heap.size → gv.ownBlock ≠ some A → gv'.ownBlock ≠ some A := fun A h1 h2 e => by
      rcases ga A e with e2 | e2
      · exact h2 e2
      · omega
    have fn : ∀ A, A < w.heap.size → nv.ownBlock ≠ some A → nv'.ownBlock ≠ some A := fun A h1 h2 e => by
      rcases na A e with e2 | e2
      · exact h2 e2
      · omega
    refine ⟨⟨d1, d2, fg A1 hA1 d3, fn A1 hA1 d4⟩, ⟨d5, fg A2 hA2 d6, fn A2 hA2 d7⟩, ⟨fg A3 hA3 d8, fn A3 hA3 d9⟩, ?_⟩
    rw [List.nodup_append]
    refine ⟨by cases gv'.ownBlock <;> simp, by cases nv'.ownBlock <;> simp, fun a ha b hb e => ?_⟩
    subst e
    exact ne a (Option.mem_toList.1 ha) (Option.mem_toList.1 hb)
  · refine ⟨?_, by have := l7 j hj; omega, (n8 j (l7 j hj) (lE j hj)).2, fun e => ?_⟩
    · rcases lA j hj with h1 | h1
      · exact (P.low j h1).1
      · omega
    · rcases lA j hj with h1 | h1
      · rcases e with e | e
        · exact (P.low j h1).2.2.2 e
        · exact (hHl j e).2.2 h1
      · rcases e with e | e
        · have := (P.hlow j e).2.1; omega
        · have := hl.1 j e; omega
  · rcases hj with e | e
    · obtain ⟨h1, h2, h3⟩ := P.hlow j e
      exact ⟨h1, by omega, (n8 j (by omega) h3).2⟩
    · obtain ⟨h1, h2, _⟩ := hHl j e
      have h4 := hl.1 j e
      exact ⟨h1, by omega, (n8 j (by omega) h2).2⟩
  · rw [List.length_append]
    have := P.tl
    simp
    omega
  · intro c hc
    rcases List.mem_append.1 hc with hc | hc
    · exact P.tr c hc
    · rw [List.mem_singleton.1 hc]
end
end Go.Proofs.YtbhfbdcmamodcaaGreatDoor
namespace Go.Proofs.YtbhfbdcmamodcaaGreatDoor
open Go.RowKit Go.Maps TrMath FrMath PackMath SumMath
theorem rec_len (k : Nat) (body : List UInt8) (hk : 1 ≤ k ∧ k ≤ 255) (hb : body.length ≤ 1048576) : (recB k body).length = body.length + 9 := by
  have hs : (⟨body.toArray⟩ : ByteArray).size = body.length := sz body
  obtain ⟨fr1, fr2⟩ := fr_fine (k := (k : Int)) (body := ⟨body.toArray⟩) (by omega) (by omega)
  unfold recB
  rw [fr2, encF_len, hs]
end Go.Proofs.YtbhfbdcmamodcaaGreatDoor
namespace Go.Proofs.YtbhfbdcmamodcaaGreatDoor
open Go.RowKit Go.Maps TrMath FrMath PackMath SumMath
theorem usual_okQ : OkQ usualP := ⟨usual_ok.1, usual_ok.2, by decide⟩
section
variable {W0 w w' : World} {s x p A1 A2 A3 : Nat} {cs : List ComP} {k nx : Nat} {E H : Foot} {T : List UInt8} {gs : List GraphP} {gv nv : Value} {L : List RowE}
theorem LawP.cells (P : LawP W0 w s x p A1 A2 A3 cs k nx E H T gs gv nv L) : w.cell? ⟨A3, 0, none⟩ = some (.pointer (some ⟨s, 0, none⟩)) ∧ w.cell? ⟨A1, 0, none⟩ = some gv ∧ w.cell? ⟨A2, 0, none⟩ = some nv :=
  ⟨by rw [cell_of_row _ _ _ _ _ _ P.b3]; rfl, by rw [cell_of_row _ _ _ _ _ _ P.b1]; rfl, by rw [cell_of_row _ _ _ _ _ _ P.b2]; rfl⟩
theorem LawP.more (P : LawP W0 w s x p A1 A2 A3 cs k nx E H T gs gv nv L) {n : Nat} (hn : nx ≤ n) : LawP W0 w s x p A1 A2 A3 cs k n E H T gs gv nv L :=
  ⟨P.whole.more hn, P.b1, P.b2, P.b3, P.g, P.gL, P.rows, P.n, P.bel, P.own, P.low, P.hlow, P.tl, P.tr⟩
end
end Go.Proofs.YtbhfbdcmamodcaaGreatDoor
namespace Go.Proofs.YtbhfbdcmamodcaaGreatDoor
open Go.RowKit Go.Maps TrMath FrMath PackMath SumMath
def RoadE (Wk w : World) (s x p : Nat) (E : Foot) (ts : List Ents) (cs : List ComP) (T : List UInt8) (nx : Nat) : Prop :=
  ∃ gs k, WholeAt w Wk.heap.size s x p E ts cs T gs k nx ∧ Below Wk.heap.size Wk w
section
variable {Wk w w' : World} {s x p : Nat} {E : Foot} {ts : List Ents} {cs : List ComP} {T : List UInt8} {nx : Nat}
theorem RoadE.lt (h : RoadE Wk w s x p E ts cs T nx) : ∀ j, E j → Wk.heap.size ≤ j ∧ j < w.heap.size := by
  obtain ⟨gs, k, P, hb⟩ := h
  exact fun j e => ⟨P.low j e, P.lt j e⟩
theorem RoadE.bel (h : RoadE Wk w s x p E ts cs T nx) : Below Wk.heap.size Wk w := by
  obtain ⟨gs, k, P, hb⟩ := h
  exact hb
theorem RoadE.below (h : RoadE Wk w s x p E ts cs T nx) (hb : Below w.heap.size w w') : RoadE Wk w' s x p E ts cs T nx := by
  obtain ⟨gs, k, P, h1⟩ := h
  exact ⟨gs, k, P.below hb, bl_trans h1 hb⟩
theorem grew_bel {F F' : Foot} {B : Nat} (h : Grew F F' w w') (hb : Below Wk.heap.size Wk w) (hF : ∀ j, F j → Wk.heap.size ≤ j) : Below Wk.heap.size Wk w' :=
  hb.trans (h.upd.below hF hb.size)
theorem rAddCommit (h : RoadE Wk w s x p E ts cs T nx) (hT : T.length ≤ 524288) (hc : cs.length < 1200) (A : ComP) (a : Option Addr) (c : Nat) (hA : CellsAt w a (A.1.flatMap natV)) (hac : A.1.length ≤ c) (hcm : c ≤ maxLen) (hG : GoodC A) (hps : ∀ y ∈ A.1, y < cs.length) (ht : A.2 < ts.length)
    (hna : ∀ b off, a = some ⟨b, off, none⟩ → ¬ E b) (haz : ∀ b off, a = some ⟨b, off, none⟩ → b < w.heap.size) :
    Calls Tryz.prog 10 #[.pointer (some ⟨s, 0, none⟩), .agg #[.slice a A.1.length c, .int .i64 (A.2 : Nat)]] w fun e w' => e = .returned (.tuple #[.int .i64 (cs.length : Nat), .int .i64 0]) ∧ ∃ E', RoadE Wk w' s x p E' ts (cs ++ [A]) (T ++ recB 2 (comB A)) nx ∧ Grew E E' w w' := by
  obtain ⟨gs, k, P, hb⟩ := h
  exact (wAddCommit P hT hc A a c hA hac hcm hG hps ht hna haz).mono fun e w' ⟨h1, E', h2, h3⟩ => ⟨h1, E', ⟨gs, k, h2, grew_bel (B := 0) h3 hb P.low⟩, h3⟩
theorem rUpdate (h : RoadE Wk w s x p E ts cs T nx) (hT : T.length ≤ 524288) (hc : cs.length ≤ 1200) (hnx : nx < 99) {Q : SetP} (hQ : OkQ Q) :
    Calls Tryz.prog 12 #[.pointer (some ⟨x, 0, none⟩), srcV s, .agg #[.int .i64 (Q.H : Nat), .int .i64 (Q.P : Nat), .int .i64 (Q.M : Nat), .int .u32 (Q.S : Nat)]] w fun e w' => e = .returned (.int .i64 0) ∧ ∃ E', RoadE Wk w' s x p E' ts cs T (nx + 1) := by
  obtain ⟨gs, k, P, hb⟩ := h
  exact (wUpdate P hT hc hnx hQ).mono fun e w' ⟨h1, E', gs', h2, h3⟩ => ⟨h1, E', gs', _, h2, grew_bel (B := 0) h3 hb P.low⟩
theorem RoadE.more {n : Nat} (h : RoadE Wk w s x p E ts cs T nx) (hn : nx ≤ n) : RoadE Wk w s x p E ts cs T n := by
  obtain ⟨gs, k, P, hb⟩ := h
  exact ⟨gs, k, P.more hn, hb⟩
end
end Go.Proofs.YtbhfbdcmamodcaaGreatDoor
