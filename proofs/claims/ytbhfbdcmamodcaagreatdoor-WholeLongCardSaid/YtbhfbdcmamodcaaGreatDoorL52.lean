/- WholeLong: the graph as it is built, the whole as it begins behind the first tree, the view made; WholeLong, walked. -/
import Derived.Test.YtbhfbdcmamodcaaGreatDoorL50
import Derived.Test.YtbhfbdcmamodcaaGreatDoorL51
import Derived.Deep.Cut
import Derived.Deep.CutRange
set_option linter.unusedVariables false
set_option linter.unusedSimpArgs false
namespace Go.Proofs.YtbhfbdcmamodcaaGreatDoor
open Go.RowKit Go.Maps TrMath FrMath PackMath SumMath LgMath
def GrFit (G : Gr) : Prop := ∀ c, (par G c).length ≤ 16 ∧ (par G c).Nodup ∧ ∀ p ∈ par G c, p < c
theorem grFit_nil : GrFit [] := fun c => by unfold par; simp
theorem par_push (G : Gr) (l : List Nat) (c : Nat) : par (G ++ [l]) c = if c = G.length then l else par G c := by
  unfold par
  rw [List.getD_eq_getElem?_getD, List.getD_eq_getElem?_getD]
  by_cases h : c < G.length
  · rw [List.getElem?_append_left h, if_neg (by omega)]
  · by_cases e : c = G.length
    · subst e; simp
    · rw [if_neg e, List.getElem?_eq_none (by rw [List.length_append]; simp; omega), List.getElem?_eq_none (by omega)]
theorem GrFit.push {G : Gr} (h : GrFit G) {l : List Nat} (h1 : l.length ≤ 16) (h2 : l.Nodup) (h3 : ∀ p ∈ l, p < G.length) : GrFit (G ++ [l]) := fun c => by
  rw [par_push]
  split
  · rename_i e; subst e; exact ⟨h1, h2, h3⟩
  · exact h c
theorem GrFit.low {G : Gr} (h : GrFit G) : LowG G := fun c p hp => (h c).2.2 p hp
theorem GrFit.few {G : Gr} (h : GrFit G) (c : Nat) : (par G c).length ≤ 1000 := by have := (h c).1; omega
structure GB (W0 w : World) (gv : Value) (G : Gr) : Prop where
  ex : ∃ L : List (Value × List Nat), L.map Prod.snd = G ∧ OwnX 42 1 gRowV w W0.heap.size gv L ∧ ∀ y ∈ L, ∃ b c, y.1 = .slice (some ⟨b, 0, none⟩) y.2.length c ∧ b < w.heap.size ∧ gv.ownBlock ≠ some b ∧ CellsAt w (some ⟨b, 0, none⟩) (y.2.flatMap natV) ∧ y.2.length ≤ c ∧ c ≤ maxLen
  bel : Below W0.heap.size W0 w
section
variable {W0 w W w' : World} {gv : Value} {G : Gr}
theorem GB.below (h : GB W0 w gv G) (hb : Below w.heap.size w W) : GB W0 W gv G := by
  obtain ⟨⟨L, h1, h2, h3⟩, h4⟩ := h
  exact ⟨⟨L, h1, h2.below hb, fun y hy => by
    obtain ⟨b, c, e1, e2, e3, e4, e5⟩ := h3 y hy
    exact ⟨b, c, e1, Nat.lt_of_lt_of_le e2 hb.size, e3, e4.below hb, e5⟩⟩, bl_trans h4 hb⟩
theorem GB.form (h : GB W0 w gv G) : ∃ a c, gv = .slice a G.length c ∧ ∃ L : List (Value × List Nat), L.length = G.length ∧ w.ownsRow W0.heap.size 42 1 gv G.length (L.flatMap gRowV) := by
  obtain ⟨⟨L, h1, h2, h3⟩, h4⟩ := h
  have hl : L.length = G.length := by rw [← h1, List.length_map]
  obtain ⟨a, c, e, _⟩ := h2.sl
  rw [hl] at e
  refine ⟨a, c, e, L, hl, ?_⟩
  unfold OwnX at h2
  rwa [hl] at h2
theorem GB.at_ {a : Option Addr} {c : Nat} (h : GB W0 w (.slice a G.length c) G) : GAt w a G := by
  obtain ⟨⟨L, h1, h2, h3⟩, h4⟩ := h
  obtain ⟨a', c', e, hc, _⟩ := h2.sl
  obtain ⟨rfl, _, _⟩ := Value.slice.inj e
  exact ⟨L, h1, hc, fun y hy => by
    obtain ⟨b, c, e1, _, _, e4, _⟩ := h3 y hy
    exact ⟨_, c, e1, e4⟩⟩
theorem row_unique {B e k n : Nat} {v : Value} {xs ys : List Value} (h : w.ownsRow B e k v n xs) (h' : w.ownsRow B e k v n ys) : xs = ys := by
  obtain ⟨a1, a2⟩ := h
  obtain ⟨b1, b2⟩ := h'
  rcases a2 with ⟨a2, a3⟩ | ⟨g, cap, cur, a2, a3, a4, a5, a6, a7, a8⟩
  · subst a3
    rw [Nat.zero_mul] at a1 b1
    rw [List.length_eq_zero_iff.1 a1, List.length_eq_zero_iff.1 b1]
  · rcases b2 with ⟨b2, b3⟩ | ⟨g', cap', cur', b2, b3, b4, b5, b6, b7, b8⟩
    · rw [a2] at b2; cases b2
    · rw [a2] at b2
      obtain ⟨c1, _, _⟩ := Value.slice.inj b2
      cases c1
      rw [a4] at b4
      have : cur = cur' := by
        have h3 := Option.some.inj b4
        injection h3
      subst this
      rw [← a8, ← b8]
theorem GB.push {gg cap b bc : Nat} {l : List Nat} {xs : List Value} (h : GB W0 w gv G) (hb : Below w.heap.size w W) (hx : ∀ L : List (Value × List Nat), L.map Prod.snd = G → OwnX 42 1 gRowV w W0.heap.size gv L → xs = L.flatMap gRowV)
    (hown : w'.ownsRow W0.heap.size 42 1 (.slice (some ⟨gg, 0, none⟩) (G.length + 1) cap) (G.length + 1) (xs ++ [.slice (some ⟨b, 0, none⟩) l.length bc])) (hg : W.grownBy w' gv.ownBlock) (hat : gv.ownBlock = some gg ∨ gg = W.heap.size) (hbn : w.heap.size ≤ b) (hbW : b < W.heap.size) (hcl : CellsAt W (some ⟨b, 0, none⟩) (l.flatMap natV)) (hlb : l.length ≤ bc) (hbm : bc ≤ maxLen) : GB W0 w' (.slice (some ⟨gg, 0, none⟩) (G.length + 1) cap) (G ++ [l]) := by
  obtain ⟨⟨L, h1, h2, h3⟩, h4⟩ := h
  have hL : L.length = G.length := by rw [← h1, List.length_map]
  rw [hx L h1 h2] at hown
  have hgl : ∀ j, gv.ownBlock = some j → j < w.heap.size := fun j e => (h2.lt j e).2
  have hz := hb.size
  have hne : ∀ j, j < W.heap.size → gv.ownBlock ≠ some j → (Value.slice (some ⟨gg, 0, none⟩) (G.length + 1) cap).ownBlock ≠ some j := fun j k1 k2 e => by
    simp [Value.ownBlock] at e
    subst e
    rcases hat with e2 | e2
    · exact k2 e2
    · omega
  have hst : ∀ j, j < W.heap.size → gv.ownBlock ≠ some j → w'.heap[j]? = W.heap[j]? := fun j k1 k2 => hg.block j k1 (fun e => k2 e.symm)
  have hbg : gv.ownBlock ≠ some b := fun e => by have := hgl b e; omega
  refine ⟨⟨L ++ [(.slice (some ⟨b, 0, none⟩) l.length bc, l)], by rw [List.map_append, h1]; rfl, ?_, fun y hy => ?_⟩, (bl_trans h4 hb).grown hg (by have := h4.size; omega) (fun i e => (h2.lt i e).1)⟩
  · have := OwnX.push (enc := gRowV) (m := [((.slice (some ⟨b, 0, none⟩) l.length bc : Value), l)]) hown (by rw [hL]; rfl) rfl
    exact this
  · rcases List.mem_append.1 hy with hy | hy
    · obtain ⟨b', c', e1, e2, e3, e4, e5⟩ := h3 y hy
      exact ⟨b', c', e1, Nat.lt_of_lt_of_le (by omega) hg.size, hne b' (by omega) e3, (e4.below hb).stays (fun b2 off e _ => by cases e; exact hst b' (by omega) e3) hg.size, e5⟩
    · rw [List.mem_singleton.1 hy]
      exact ⟨b, bc, rfl, Nat.lt_of_lt_of_le hbW hg.size, hne b hbW hbg, hcl.stays (fun b2 off e _ => by cases e; exact hst b hbW hbg) hg.size, hlb, hbm⟩
theorem GB.push1 {W w' : World} {gg cap b bc : Nat} {l : List Nat} {xs : List Value} (h : GB W0 w gv G) (hxs : w.ownsRow W0.heap.size 42 1 gv G.length xs) (hb : Below w.heap.size w W)
    (hown : w'.ownsRow W0.heap.size 42 1 (.slice (some ⟨gg, 0, none⟩) (G.length + 1) cap) (G.length + 1) (xs ++ [.slice (some ⟨b, 0, none⟩) l.length bc])) (hg : W.grownBy w' gv.ownBlock) (hat : gv.ownBlock = some gg ∨ gg = W.heap.size) (hbn : w.heap.size ≤ b) (hbW : b < W.heap.size) (hcl : CellsAt W (some ⟨b, 0, none⟩) (l.flatMap natV)) (hlb : l.length ≤ bc) (hbm : bc ≤ maxLen) : GB W0 w' (.slice (some ⟨gg, 0, none⟩) (G.length + 1) cap) (G ++ [l]) :=
  GB.push h hb (fun L h1 h2 => by
    have hl : L.length = G.length := by rw [← h1, List.length_map]
    unfold OwnX at h2
    rw [hl] at h2
    exact row_unique hxs h2) hown hg hat hbn hbW hcl hlb hbm
def GRows (w : World) (a : Option Addr) (G : Gr) : Prop := ∀ c < G.length, ∃ b off rb rc, a = some ⟨b, off, none⟩ ∧ w.cell? ⟨b, off + c, none⟩ = some (.slice (some ⟨rb, 0, none⟩) (par G c).length rc) ∧ CellsAt w (some ⟨rb, 0, none⟩) ((par G c).flatMap natV) ∧ rb < w.heap.size ∧ (par G c).length ≤ rc ∧ rc ≤ maxLen
theorem GRows.below {a : Option Addr} (h : GRows w a G) (hb : Below w.heap.size w W) : GRows W a G := fun c hc => by
  obtain ⟨b, off, rb, rc, h1, h2, h3, h4, h5⟩ := h c hc
  exact ⟨b, off, rb, rc, h1, bl_cell hb h2, h3.below hb, Nat.lt_of_lt_of_le h4 hb.size, h5⟩
theorem GB.rows {a : Option Addr} {c : Nat} (h : GB W0 w (.slice a G.length c) G) : GRows w a G := fun k hk => by
  obtain ⟨⟨L, h1, h2, h3⟩, h4⟩ := h
  obtain ⟨a', c', e, hc, _⟩ := h2.sl
  obtain ⟨rfl, _, _⟩ := Value.slice.inj e
  have hl : k < L.length := by rw [← h1, List.length_map] at hk; exact hk
  obtain ⟨b, off, e1, _, e3⟩ := hc.elem gRowW hl (by decide)
  obtain ⟨rb, rc, e4, e5, _, e6, e7⟩ := h3 _ (List.getElem_mem hl)
  have hp : par G k = (L[k]).2 := by
    unfold par
    rw [← h1, List.getD_eq_getElem?_getD, List.getElem?_map, List.getElem?_eq_getElem hl]
    rfl
  have h0 := e3 0 _ rfl
  rw [Nat.mul_one, Nat.add_zero, e4] at h0
  rw [hp]
  exact ⟨b, off, rb, rc, e1, h0, e6, e5, e7⟩
end
theorem goodS_one : GoodS [[]] [] := ⟨fun l hl => by rw [List.mem_singleton.1 hl]; exact goodT_nil, fun k c h => by simp at h, by simp, by simp⟩
theorem whole_start1 {w : World} {B s x p q : Nat} {S : StoreS} {F : Foot} {T : List UInt8} (hD : Disk w p F [(logN, T)] q) (hq : q ≤ 900) (hS : StoreAt w s S) (hp : S.disk = p) (ht : S.trees.map Prod.snd = [[]]) (hc : S.commits.map Prod.snd = []) (hap : Apart F fun k => k ∈ S.own s) (hx : w.heap[x]? = some (.cells #[.pointer (some ⟨p, 0, none⟩), .slice none 0 0, .slice none 0 0] 97 (0, 0)))
    (hxF : ¬ F x) (hxS : x ∉ S.own s) (syn : SynOk w) (synB : nmLaysC172_ren.g 15 < B) (hF : ∀ j, F j → B ≤ j) (hSB : ∀ j ∈ S.own s, B ≤ j) (hxB : B ≤ x) : WholeAt w B s x p (fun j => F j ∨ j ∈ S.own s ∨ j = x) [[]] [] T [] 0 0 := by
  have hown : ∀ j, (⟨p, .slice none 0 0, .slice none 0 0, [], []⟩ : IndexS).foot x (fun _ => False) j ↔ j = x := fun j => by
    unfold IndexS.foot IndexS.own
    simp [Value.ownBlock]
  refine ⟨⟨S, ⟨p, .slice none 0 0, .slice none 0 0, [], []⟩, fun _ => False, F, _, q, hS, hp, ht, hc, ⟨hx, OwnX.nil _ _ _ _ _, OwnX.nil _ _ _ _ _, by simp, fun _ h => h.elim, by simp [IndexS.own, Value.ownBlock], fun _ _ h => h⟩, rfl, rfl, hD, by omega, ?_, fun j a b => hxF ((hown j).1 b ▸ a), hap, fun j a b => hxS ((hown j).1 b ▸ a), fun j => by rw [hown], by simp, by simp [nextN], by simp⟩, .nil, goodS_one, syn, synB, fun j hj => ?_⟩
  · exact ⟨by simp, fun y hy => by rw [List.mem_singleton.1 hy]; exact .inl rfl, fun h => absurd rfl h, by simp, fun i h => by simp at h, by simp, by simp⟩
  · rcases hj with e | e | e
    · exact hF j e
    · exact hSB j e
    · omega
set_option maxRecDepth 100000 in
theorem vNew (s x : Nat) (w : World) : Calls Tryz.prog 20 #[.pointer (some ⟨s, 0, none⟩), .pointer (some ⟨x, 0, none⟩)] w fun e w' => e = .returned (.pointer (some ⟨w.heap.size, 0, none⟩)) ∧ w' = w.alloc (.cells #[.pointer (some ⟨s, 0, none⟩), .pointer (some ⟨x, 0, none⟩)] 112) := by
  go_enter Tryz.func20, Tryz.ntmps20
  go_wp2
  go_ret
  exact ⟨rfl, rfl⟩
def comsG (G : Gr) : List ComP := G.map fun l => (l, 0)
theorem comsG_gr (G : Gr) : grC (comsG G) = G := by unfold grC comsG; rw [List.map_map]; exact List.map_id _
theorem comsG_len (G : Gr) : (comsG G).length = G.length := by unfold comsG; rw [List.length_map]
theorem comsG_take (G : Gr) {c : Nat} (hc : c < G.length) : comsG (G.take (c + 1)) = comsG (G.take c) ++ [(par G c, 0)] := by
  unfold comsG par
  rw [List.take_succ_eq_append_getElem hc, List.map_append, List.getD_eq_getElem?_getD, List.getElem?_eq_getElem hc]
  rfl
def LongE (Wk w : World) (s x p : Nat) (G : Gr) (c K : Nat) : Prop := ∃ E T nx, RoadE Wk w s x p E [[]] (comsG (G.take c)) T nx ∧ T.length ≤ 1000 + 100 * c ∧ nx ≤ 1 ∧ (c ≤ K → nx = 0)
theorem long_road {Wk W1 w2 w3 : World} {s : Nat} {F2 F3 : Foot} {S2 S3 : StoreS} (hb1 : Below Wk.heap.size Wk W1) (hsyn : SynOk Wk)
    (hg2 : Grew (fun k => k = Wk.heap.size + 2 ∨ k = Wk.heap.size) (F2.or fun k => k ∈ S2.own s) W1 w2)
    (hD : Disk w3 (Wk.heap.size + 2) F3 [(logN, recB 1 (treeB []))] 0) (hS : StoreAt w3 s S3) (hp : S3.disk = Wk.heap.size + 2) (ht : S3.trees.map Prod.snd = [[]]) (hc : S3.commits.map Prod.snd = []) (hap : Apart F3 fun k => k ∈ S3.own s) (hg3 : Grew (F2.or fun k => k ∈ S2.own s) (F3.or fun k => k ∈ S3.own s) w2 w3) :
    ∃ E, RoadE Wk (w3.alloc (.cells #[.pointer (some ⟨Wk.heap.size + 2, 0, none⟩), .slice none 0 0, .slice none 0 0] 97)) s w3.heap.size (Wk.heap.size + 2) E [[]] [] (recB 1 (treeB [])) 0 := by
  obtain ⟨W4, hW4⟩ : ∃ W4, w3.alloc (.cells #[.pointer (some ⟨Wk.heap.size + 2, 0, none⟩), .slice none 0 0, .slice none 0 0] 97) = W4 := ⟨_, rfl⟩
  have hg := hg2.trans hg3
  have hb4 : Below w3.heap.size w3 W4 := by rw [← hW4]; exact bl_alloc (Below.refl _ _) _
  have hx4 : W4.heap[w3.heap.size]? = some (.cells #[.pointer (some ⟨Wk.heap.size + 2, 0, none⟩), .slice none 0 0, .slice none 0 0] 97 (0, 0)) := by rw [← hW4]; exact heap_alloc_new _ _
  have hlo : ∀ j, (F3.or fun k => k ∈ S3.own s) j → Wk.heap.size ≤ j := fun j hj => by
    rcases hg.sub j hj with e | e
    · omega
    · have := hb1.size; omega
  have hlt := hg.lt
  have hb03 : Below Wk.heap.size Wk w3 := hb1.trans (hg.upd.below (fun j e => by rcases e with e | e <;> omega) hb1.size)
  have hz := hb03.size
  have hb04 : Below Wk.heap.size Wk W4 := hb03.trans (hb4.mono hz)
  have hsy4 := hsyn.stays (hb04.block _ hsyn.lt)
  rw [hW4]
  exact ⟨_, [], 0, whole_start1 (w := W4) (B := Wk.heap.size) (x := w3.heap.size) (hD.below hb4) (by omega) (hS.below hb4) hp ht hc hap hx4 (fun e => by have := hlt _ (.inl e); omega) (fun e => by have := hlt _ (.inr e); omega) hsy4 hsyn.lt (fun j e => hlo j (.inl e)) (fun j e => hlo j (.inr e)) hz, hb04⟩
theorem long_add {Wk w : World} {s x p c K nx rb rc : Nat} {E : Foot} {T : List UInt8} {G : Gr} (hR : RoadE Wk w s x p E [[]] (comsG (G.take c)) T nx) (hT : T.length ≤ 1000 + 100 * c) (hnx : nx ≤ 1) (hK : c + 1 ≤ K → nx = 0) (hfit : GrFit G) (hc : c < G.length) (hG : G.length ≤ 1100)
    (hrow : CellsAt w (some ⟨rb, 0, none⟩) ((par G c).flatMap natV)) (hrb : rb < Wk.heap.size) (hrl : (par G c).length ≤ rc) (hrc : rc ≤ maxLen) :
    Calls Tryz.prog 10 #[.pointer (some ⟨s, 0, none⟩), .agg #[.slice (some ⟨rb, 0, none⟩) (par G c).length rc, .int .i64 0]] w fun e w' => e = .returned (.tuple #[.int .i64 (c : Nat), .int .i64 0]) ∧ LongE Wk w' s x p G (c + 1) K := by
  have hlen : (comsG (G.take c)).length = c := by rw [comsG_len, List.length_take]; omega
  have hgc : GoodC (par G c, 0) := ⟨(hfit c).1, fun p hp => by have := (hfit c).2.2 p hp; omega, (hfit c).2.1, by simp⟩
  have hz := hR.bel.size
  have h := rAddCommit hR (by omega) (by omega) (par G c, 0) (some ⟨rb, 0, none⟩) rc hrow hrl hrc hgc (fun y hy => by rw [hlen]; exact (hfit c).2.2 y hy) (by simp) (fun b off e he => by cases e; have := (hR.lt _ he).1; omega) (fun b off e => by cases e; omega)
  rw [hlen] at h
  refine h.mono fun e w' ⟨h1, E', h2, h3⟩ => ⟨h1, E', T ++ recB 2 (comB (par G c, 0)), nx, ?_, ?_, hnx, hK⟩
  · rw [comsG_take G hc]; exact h2
  · rw [List.length_append, rec_len 2 _ (by omega) (by have := comB_len hgc; omega)]
    have := comB_len hgc
    omega
def LongF (Wk w : World) (s x p : Nat) (G : Gr) : Prop := ∃ E T nx, RoadE Wk w s x p E [[]] (comsG G) T nx ∧ T.length ≤ 524288 ∧ nx ≤ 50
theorem LongE.full {Wk w : World} {s x p K : Nat} {G : Gr} (h : LongE Wk w s x p G G.length K) (hG : G.length ≤ 1100) : LongF Wk w s x p G := by
  obtain ⟨E, T, nx, hR, h1, h2, h3⟩ := h
  rw [List.take_length] at hR
  exact ⟨E, T, nx, hR, by omega, by omega⟩
theorem LongF.bel {Wk w : World} {s x p : Nat} {G : Gr} (h : LongF Wk w s x p G) : Below Wk.heap.size Wk w := by
  obtain ⟨E, T, nx, hR, _⟩ := h
  exact hR.bel
theorem LongF.below {Wk w w' : World} {s x p : Nat} {G : Gr} (h : LongF Wk w s x p G) (hb : Below w.heap.size w w') : LongF Wk w' s x p G := by
  obtain ⟨E, T, nx, hR, h1⟩ := h
  exact ⟨E, T, nx, hR.below hb, h1⟩
theorem long_update {Wk w : World} {s x p : Nat} {G : Gr} (h : LongF Wk w s x p G) (hG : G.length ≤ 1100) :
    Calls Tryz.prog 12 #[.pointer (some ⟨x, 0, none⟩), .iface 29 (.pointer (some ⟨s, 0, none⟩)), .agg #[.int .i64 (usualP.H : Nat), .int .i64 (usualP.P : Nat), .int .i64 (usualP.M : Nat), .int .u32 (usualP.S : Nat)]] w fun e w' => e = .returned (.int .i64 0) ∧ ∃ E T nx, RoadE Wk w' s x p E [[]] (comsG G) T nx := by
  obtain ⟨E, T, nx, hR, h1, h2⟩ := h
  exact (rUpdate hR h1 (by rw [comsG_len]; omega) (by omega) usual_okQ).mono fun e w' ⟨h1, E', h2⟩ => ⟨h1, E', T, _, h2⟩
theorem listF_few (f : Nat → Bool) (N : Nat) : (listF f N).length ≤ N := by
  induction N with
  | zero => simp [listF]
  | succ i ih =>
    rw [listF_succ]
    split
    · rw [List.length_append]; simp; exact ih
    · omega
theorem long_view {Wk w : World} {s x p nx : Nat} {E : Foot} {T : List UInt8} {G : Gr} (h : RoadE Wk w s x p E [[]] (comsG G) T nx) (hG : G.length ≤ 1100) :
    ∃ k, ViewAt (w.alloc (.cells #[.pointer (some ⟨s, 0, none⟩), .pointer (some ⟨x, 0, none⟩)] 112)) w.heap.size (comsG G) k := by
  obtain ⟨gs, k, P, hb⟩ := h
  exact ⟨k, _, s, x, p, E, _, T, gs, nx, heap_alloc_new _ _, P.below (bl_alloc (Below.refl _ _) _), by rw [comsG_len]; omega⟩
end Go.Proofs.YtbhfbdcmamodcaaGreatDoor
namespace Go.Proofs.YtbhfbdcmamodcaaGreatDoor
open Go.RowKit Go.Maps TrMath FrMath PackMath SumMath LgMath
theorem infoRowL : (Tryz.prog.info? 42).map (fun i => (i.zero, i.size, i.bytes)) = some (some (.slice none 0 0), 1, 24) := by kernel_rfl
set_option maxHeartbeats 20000000 in
set_option maxRecDepth 100000 in
theorem wholeLong (more known : Nat) (hmore : more < 65536) (hknown : known < 65536) (bs : List Nat) (ba : Option Addr) (bc : Nat) (hbc : bs.length ≤ bc) (hbcm : bc ≤ maxLen) (W0 : World) (hbt : CellsAt W0 ba (bs.map fun p => .int .u16 (p : Nat))) (hbv : ∀ b ∈ bs, b < 65536) (hsyn : SynOk W0) (htz : TzOk W0) :
    Calls Tryz.prog 4 #[.int .u16 (more : Nat), .slice ba bs.length bc, .int .u16 (known : Nat)] W0 fun e w' => e = .returned (.bool true) ∧ Below W0.heap.size W0 w' := by
  obtain ⟨i0, hi0, hz0, hz1, hz2⟩ := info_parts infoRowL
  obtain ⟨r90, hr90⟩ : ∃ r, more % 90 = r := ⟨_, rfl⟩
  obtain ⟨n, hn⟩ : ∃ n, 993 + r90 = n := ⟨_, rfl⟩
  have hn1 : 993 ≤ n ∧ n ≤ 1082 := by omega
  have f1 : ((more : Nat) : Int) % 90 = (r90 : Int) := by omega
  have f2 : (993 : Int) + (r90 : Int) = (n : Int) := by omega
  obtain ⟨m, hm⟩ : ∃ m, min bs.length 12 = m := ⟨_, rfl⟩
  have hml : m ≤ bs.length := by omega
  have hm12 : m ≤ 12 := by omega
  have hmI : min (bs.length : Int) 12 = (m : Int) := by omega
  have hmIf : (if (bs.length : Int) ≤ 12 then (bs.length : Int) else 12) = (m : Int) := by split <;> omega
  have hbcm' : bc ≤ 9223372036854775807 := hbcm
  have HBT := Lib.hid hbt; have HBV := Lib.hid hbv; have HSY := Lib.hid hsyn; have HTZ := Lib.hid htz
  clear hbt hbv hsyn htz hm hr90 hn
  go_enter Tryz.func4, Tryz.ntmps4
  go_upto_region 3 with (fail)
  clear f1 f2
  go_wp2_with fail
  go_loopw [8, 40] (fun gv iv wr => ∃ (G : Gr) (v : Value), v = gv ∧ G.length ≤ n ∧ iv = .int .i64 G.length ∧ Hid (GrFit G) ∧ Hid (GB W0 wr v G)) (fun _ iv _ => n - (intOf iv).toNat)
  case atStart => exact ⟨[], _, rfl, Nat.zero_le _, rfl, Lib.hid grFit_nil, Lib.hid ⟨⟨[], rfl, OwnX.nil _ _ _ _ _, by simp⟩, Below.refl _ _⟩⟩
  case round =>
    obtain ⟨G, v, hv, hi, rfl, HFIT, HGB⟩ := hrel
    subst hv
    obtain ⟨wq, hwq⟩ : ∃ wq : World, wq = wr := ⟨_, rfl⟩
    subst hwq
    by_cases hlt : G.length < n
    · obtain ⟨va, vc, rfl, L, hL, hown⟩ := HGB.out.form
      obtain ⟨xs, hxs⟩ : ∃ xs, L.flatMap gRowV = xs := ⟨_, rfl⟩
      have HOW := Lib.hid (show ∀ W, Below wq.heap.size wq W → W.ownsRow W0.heap.size 42 1 (.slice va G.length vc) G.length xs from fun W hb => by
        have h1 := OwnX.below (enc := gRowV) (l := L) (by unfold OwnX; rw [hL]; exact hown) hb
        unfold OwnX at h1
        rw [hL, hxs] at h1
        exact h1)
      have hwm : IntKind.i64.wrap ((G.length : Int) - 1) = (G.length : Int) - 1 := IntWalk.i64_in _ (by omega)
      clear hown hL hxs
      by_cases h0 : G.length = 0
      · have hmn1 : min (G.length : Int) 1 = 0 := by omega
        have hmn2 : (if (G.length : Int) ≤ 1 then (G.length : Int) else 1) = 0 := by split <;> omega
        have HF := Lib.hid (HFIT.out.push (l := []) (by simp) (by simp) (by simp))
        go_wp2_with (at_builtin; refine wpList_append_lies _ rfl (.tmp 43) (.tmp 50) 58 rfl W0.heap.size 42 i0 (.slice none 0 0) 1 24 Tryz.underlying58 hi0 hz0 hz1 hz2 rfl (by decide) (.slice va G.length vc) G.length xs rfl (HOW.out _ (bl_alloc (bl_alloc (Below.refl _ _) _) _)) _ 1 1 [.slice (some ⟨wq.heap.size, 0, none⟩) 0 1] rfl rfl (cells_new _ [.slice (some ⟨wq.heap.size, 0, none⟩) 0 1] _ (by simp)) (by intro u hu; rw [List.mem_singleton.1 hu]; rfl) (by decide) (by unfold maxLen; omega) (by omega) (by have := HGB.out.bel.size; simp; omega) _ rfl ?_; intro gg cp w7 hown hg hat hlt7; have HN := Lib.hid (GB.push1 (l := []) HGB.out (HOW.out _ (Below.refl _ _)) (bl_alloc (bl_alloc (Below.refl _ _) _) _) hown hg hat (Nat.le_refl _) (by simp; omega) (CellsAt.nil _ _) (by simp) (by unfold maxLen; omega)); clear hown hg hat hlt7)
        go_roundw
        case rel => exact ⟨G ++ [[]], _, rfl, by rw [List.length_append]; simp; omega, by rw [List.length_append]; first | rfl | go_num, HF, Lib.hid (by have h := HN.out; rw [h0] at h; exact h)⟩
        case measure => simp [intOf]; omega
      · have hmn1 : min (G.length : Int) 1 = 1 := by omega
        have hmn2 : (if (G.length : Int) ≤ 1 then (G.length : Int) else 1) = 1 := by split <;> omega
        obtain ⟨l1, hl1⟩ : ∃ l1 : List Nat, l1 = [G.length - 1] := ⟨_, rfl⟩
        have hl1L : l1.length = 1 := by rw [hl1]; rfl
        have hl1F : l1.flatMap natV = [.int .i64 ((G.length : Int) - 1)] := by rw [hl1]; show [Value.int .i64 ((G.length - 1 : Nat) : Int)] = _; rw [show ((G.length - 1 : Nat) : Int) = (G.length : Int) - 1 by omega]
        have HC1 : ∀ o, CellsAt ((wq.alloc (.cells #[.int .i64 ((G.length : Int) - 1)] 3)).alloc o) (some ⟨wq.heap.size, 0, none⟩) (l1.flatMap natV) := fun o => by
          rw [hl1F]
          exact CellsAt.below (w := wq.alloc (.cells #[.int .i64 ((G.length : Int) - 1)] 3)) (cells_at_new wq [.int .i64 ((G.length : Int) - 1)] 3) (bl_alloc (Below.refl _ _) o)
        have HF := Lib.hid (HFIT.out.push (l := l1) (by rw [hl1L]; omega) (by rw [hl1]; simp) (by rw [hl1]; intro p hp; rw [List.mem_singleton.1 hp]; omega))
        go_wp2_with (at_builtin; refine wpList_append_lies _ rfl (.tmp 43) (.tmp 50) 58 rfl W0.heap.size 42 i0 (.slice none 0 0) 1 24 Tryz.underlying58 hi0 hz0 hz1 hz2 rfl (by decide) (.slice va G.length vc) G.length xs rfl (HOW.out _ (bl_alloc (bl_alloc (Below.refl _ _) _) _)) _ 1 1 [.slice (some ⟨wq.heap.size, 0, none⟩) 1 1] rfl rfl (cells_new _ [.slice (some ⟨wq.heap.size, 0, none⟩) 1 1] _ (by simp)) (by intro u hu; rw [List.mem_singleton.1 hu]; rfl) (by decide) (by unfold maxLen; omega) (by omega) (by have := HGB.out.bel.size; simp; omega) _ rfl ?_; intro gg cp w7 hown hg hat hlt7; have HN := Lib.hid (GB.push1 (b := wq.heap.size) (bc := 1) (l := l1) HGB.out (HOW.out _ (Below.refl _ _)) (bl_alloc (bl_alloc (Below.refl _ _) _) _) (by rw [hl1L]; exact hown) hg hat (Nat.le_refl _) (by simp; omega) (HC1 _) (by rw [hl1L]; omega) (by unfold maxLen; omega)); clear hown hg hat hlt7)
        go_roundw
        case rel => exact ⟨G ++ [l1], _, rfl, by rw [List.length_append]; simp; omega, by rw [List.length_append]; first | rfl | go_num, HF, HN⟩
        case measure => simp [intOf]; omega
    · have hgn : G.length = n := by omega
      obtain ⟨va, vc, rfl, L, hL, hown⟩ := HGB.out.form
      clear hL hown L hlt
      go_wp2_with fail
      go_loopw [8, 59] (fun gv iv wr => ∃ (j : Nat) (G : Gr) (v : Value), v = gv ∧ iv = .int .i64 j ∧ j ≤ m ∧ n ≤ G.length ∧ G.length ≤ n + j ∧ Hid (GrFit G) ∧ Hid (GB W0 wr v G)) (fun _ iv _ => m - (intOf iv).toNat)
      case atStart => exact ⟨0, G, _, rfl, rfl, Nat.zero_le _, by omega, by omega, HFIT, HGB⟩
      case round =>
        clear HGB HFIT hgn
        obtain ⟨j, G, v, hv, rfl, hjm, hnG, hGn, HFIT, HGB⟩ := hrel
        subst hv
        obtain ⟨wq, hwq⟩ : ∃ wq : World, wq = wr := ⟨_, rfl⟩
        subst hwq
        by_cases hjlt : j < m
        · obtain ⟨b, hb⟩ : ∃ b, bs[j]? = some b := ⟨_, List.getElem?_eq_getElem (by omega)⟩
          have hb16 : b < 65536 := HBV.out b (List.mem_of_getElem? hb)
          obtain ⟨b0, off, rfl, hl0, hcell⟩ := (HBT.out.below HGB.out.bel) j (.int .u16 (b : Nat)) (by rw [List.getElem?_map, hb]; rfl)
          obtain ⟨q, hq⟩ : ∃ q, b % 60 = q := ⟨_, rfl⟩
          obtain ⟨t, ht⟩ : ∃ t, n - 1 - q = t := ⟨_, rfl⟩
          have hq60 : q < 60 := by omega
          have htn : t < n := by omega
          have f1 : (b : Int) % 60 = (q : Int) := by omega
          have f2 : (n : Int) - 1 - (q : Int) = (t : Int) := by omega
          have f3 : min (n : Int) 60 = 60 := by omega
          have f4 : (if (n : Int) ≤ 60 then (n : Int) else 60) = 60 := by split <;> omega
          obtain ⟨va, vc, rfl, L, hL, hown⟩ := HGB.out.form
          obtain ⟨xs, hxs⟩ : ∃ xs, L.flatMap gRowV = xs := ⟨_, rfl⟩
          have HOW := Lib.hid (show ∀ W, Below wq.heap.size wq W → W.ownsRow W0.heap.size 42 1 (.slice va G.length vc) G.length xs from fun W hb => by
            have h1 := OwnX.below (enc := gRowV) (l := L) (by unfold OwnX; rw [hL]; exact hown) hb
            unfold OwnX at h1
            rw [hL, hxs] at h1
            exact h1)
          clear hown hL hxs hq ht
          by_cases h3 : (j : Int) % 3 = 2
          · have hwm : IntKind.i64.wrap ((G.length : Int) - 1) = (G.length : Int) - 1 := IntWalk.i64_in _ (by omega)
            by_cases ha : (G.length : Int) - 1 = (t : Int)
            · go_wp2_with fail
              go_roundw
              case rel => exact ⟨j + 1, G, _, rfl, by go_num, by omega, by omega, by omega, HFIT, HGB⟩
              case measure => simp [intOf]; omega
            · obtain ⟨l1, hl1⟩ : ∃ l1 : List Nat, l1 = [G.length - 1, t] := ⟨_, rfl⟩
              have hl1L : l1.length = 2 := by rw [hl1]; rfl
              have hl1F : l1.flatMap natV = [.int .i64 ((G.length : Int) - 1), .int .i64 (t : Nat)] := by rw [hl1]; show [Value.int .i64 ((G.length - 1 : Nat) : Int), .int .i64 (t : Nat)] = _; rw [show ((G.length - 1 : Nat) : Int) = (G.length : Int) - 1 by omega]
              have HC1 : ∀ o, CellsAt ((wq.alloc (.cells #[.int .i64 ((G.length : Int) - 1), .int .i64 (t : Nat)] 3)).alloc o) (some ⟨wq.heap.size, 0, none⟩) (l1.flatMap natV) := fun o => by
                rw [hl1F]
                exact CellsAt.below (w := wq.alloc (.cells #[.int .i64 ((G.length : Int) - 1), .int .i64 (t : Nat)] 3)) (cells_at_new wq [.int .i64 ((G.length : Int) - 1), .int .i64 (t : Nat)] 3) (bl_alloc (Below.refl _ _) o)
              have HF := Lib.hid (HFIT.out.push (l := l1) (by rw [hl1L]; omega) (by rw [hl1]; simp; omega) (by rw [hl1]; intro p hp; simp at hp; omega))
              go_wp2_with (at_builtin; refine wpList_append_lies _ rfl (.tmp 81) (.tmp 85) 58 rfl W0.heap.size 42 i0 (.slice none 0 0) 1 24 Tryz.underlying58 hi0 hz0 hz1 hz2 rfl (by decide) (.slice va G.length vc) G.length xs rfl (HOW.out _ (bl_alloc (bl_alloc (Below.refl _ _) _) _)) _ 1 1 [.slice (some ⟨wq.heap.size, 0, none⟩) 2 2] rfl rfl (cells_new _ [.slice (some ⟨wq.heap.size, 0, none⟩) 2 2] _ (by simp)) (by intro u hu; rw [List.mem_singleton.1 hu]; rfl) (by decide) (by unfold maxLen; omega) (by omega) (by have := HGB.out.bel.size; simp; omega) _ rfl ?_; intro gg cp w7 hown hg hat hlt7; have HN := Lib.hid (GB.push1 (b := wq.heap.size) (bc := 2) (l := l1) HGB.out (HOW.out _ (Below.refl _ _)) (bl_alloc (bl_alloc (Below.refl _ _) _) _) (by rw [hl1L]; exact hown) hg hat (Nat.le_refl _) (by simp; omega) (HC1 _) (by rw [hl1L]; omega) (by unfold maxLen; omega)); clear hown hg hat hlt7)
              go_roundw
              case rel => exact ⟨j + 1, G ++ [l1], _, rfl, by go_num, by omega, by rw [List.length_append]; simp; omega, by rw [List.length_append]; simp; omega, HF, by have h := HN; exact h⟩
              case measure => simp [intOf]; omega
          · obtain ⟨l1, hl1⟩ : ∃ l1 : List Nat, l1 = [t] := ⟨_, rfl⟩
            have hl1L : l1.length = 1 := by rw [hl1]; rfl
            have hl1F : l1.flatMap natV = [.int .i64 (t : Nat)] := by rw [hl1]; rfl
            have HC1 : ∀ o, CellsAt ((wq.alloc (.cells #[.int .i64 (t : Nat)] 3)).alloc o) (some ⟨wq.heap.size, 0, none⟩) (l1.flatMap natV) := fun o => by
              rw [hl1F]
              exact CellsAt.below (w := wq.alloc (.cells #[.int .i64 (t : Nat)] 3)) (cells_at_new wq [.int .i64 (t : Nat)] 3) (bl_alloc (Below.refl _ _) o)
            have HF := Lib.hid (HFIT.out.push (l := l1) (by rw [hl1L]; omega) (by rw [hl1]; simp) (by rw [hl1]; intro p hp; simp at hp; omega))
            go_wp2_with (at_builtin; refine wpList_append_lies _ rfl (.tmp 87) (.tmp 90) 58 rfl W0.heap.size 42 i0 (.slice none 0 0) 1 24 Tryz.underlying58 hi0 hz0 hz1 hz2 rfl (by decide) (.slice va G.length vc) G.length xs rfl (HOW.out _ (bl_alloc (bl_alloc (Below.refl _ _) _) _)) _ 1 1 [.slice (some ⟨wq.heap.size, 0, none⟩) 1 1] rfl rfl (cells_new _ [.slice (some ⟨wq.heap.size, 0, none⟩) 1 1] _ (by simp)) (by intro u hu; rw [List.mem_singleton.1 hu]; rfl) (by decide) (by unfold maxLen; omega) (by omega) (by have := HGB.out.bel.size; simp; omega) _ rfl ?_; intro gg cp w7 hown hg hat hlt7; have HN := Lib.hid (GB.push1 (b := wq.heap.size) (bc := 1) (l := l1) HGB.out (HOW.out _ (Below.refl _ _)) (bl_alloc (bl_alloc (Below.refl _ _) _) _) (by rw [hl1L]; exact hown) hg hat (Nat.le_refl _) (by simp; omega) (HC1 _) (by rw [hl1L]; omega) (by unfold maxLen; omega)); clear hown hg hat hlt7)
            go_roundw
            case rel => exact ⟨j + 1, G ++ [l1], _, rfl, by go_num, by omega, by rw [List.length_append]; simp; omega, by rw [List.length_append]; simp; omega, HF, by have h := HN; exact h⟩
            case measure => simp [intOf]; omega
        · have hjm2 : j = m := by omega
          obtain ⟨va, vc, rfl, L, hL, hown⟩ := HGB.out.form
          go_upto_region 18 with (fail)
          have hGl : G.length ≤ 1100 := by omega
          clear hjlt hjm hjm2
          have HGR := Lib.hid HGB.out.rows
          have HGA := Lib.hid HGB.out.at_
          have HBQ := Lib.hid HGB.out.bel
          have HSQ := Lib.hid (show SynOk wq from HSY.out.stays (HGB.out.bel.block _ HSY.out.lt))
          clear hL hown L HGB HBT HBV
          obtain ⟨W1, hW1⟩ : ∃ W1, ((wq.alloc (.map #[] 0)).alloc (.map #[] 0)).alloc (.cells #[.int .i64 (16777216 : Nat), .int .i64 0, .map (some wq.heap.size), .map (some (wq.heap.size + 1)), .slice none 0 0, .int .i64 0, .bool false] 73) = W1 := ⟨_, rfl⟩
          have HNew := Lib.hid (show Calls Tryz.prog 5 #[.int .i64 16777216] wq fun e w' => e = .returned (.tuple #[.pointer (some ⟨wq.heap.size + 2, 0, none⟩), .int .i64 0]) ∧ w' = W1 from (sNew 16777216 (by omega) wq).mono fun e w' ⟨h1, h2⟩ => ⟨h1, h2.trans hW1⟩)
          have hD1 := disk_new wq
          rw [hW1] at hD1
          have hb1 : Below wq.heap.size wq W1 := by rw [← hW1]; exact bl_alloc (bl_alloc (bl_alloc (Below.refl _ _) _) _) _
          have HOp := Lib.hid (sOpenNew (wq.heap.size + 2) 0 _ W1 hD1 (by omega))
          have HB1 := Lib.hid hb1
          clear hW1 hb1 hD1
          go_wp2_with fail
          (with_reducible refine HNew.out.mono ?_)
          rintro e w1 ⟨rfl, hw1⟩
          rw [hw1]
          clear hw1
          go_wp2_with fail
          (with_reducible refine HOp.out.mono ?_)
          rintro e w2 ⟨s, F2, S2, rfl, hD2, hS2, hp2, ht2, hc2, hap2, hg2, hlow2⟩
          have HAT := Lib.hid (show Calls Tryz.prog 8 #[.pointer (some ⟨s, 0, none⟩), .slice none 0 0] w2 fun e w' => e = .returned (.tuple #[.int .i64 0, .int .i64 0]) ∧ Added s (wq.heap.size + 2) 0 F2 S2 [(logN, recB 1 (treeB []))] [[]] [] w2 w' from by
            have h := sAddTree s (wq.heap.size + 2) 0 F2 S2 [] [] [] [] none 0 w2 hD2 hS2 hp2 hap2 (by simp) (by simp) (EnAt.none _ _) goodT_nil (by rw [ht2]; decide) (fun _ _ e => by cases e) (fun _ _ e => by cases e)
            rw [ht2, hc2] at h
            exact h)
          have HG2 := Lib.hid hg2
          clear hD2 hS2 hp2 ht2 hc2 hap2 hlow2 hg2
          go_wp2_with fail
          (with_reducible refine HAT.out.mono ?_)
          rintro e w3 ⟨rfl, F3, S3, hD3, hS3, hp3, ht3, hc3, hap3, hg3⟩
          have HON := Lib.hid (wOpenNew hD3 (by simp))
          obtain ⟨E4, hroad⟩ := long_road HB1.out HSQ.out HG2.out hD3 hS3 hp3 ht3 hc3 hap3 hg3
          obtain ⟨W4, hW4⟩ : ∃ W4, w3.alloc (.cells #[.pointer (some ⟨wq.heap.size + 2, 0, none⟩), .slice none 0 0, .slice none 0 0] 97) = W4 := ⟨_, rfl⟩
          rw [hW4] at hroad
          obtain ⟨r80, hr80⟩ : ∃ r, known % 80 = r := ⟨_, rfl⟩
          obtain ⟨K, hK⟩ : ∃ K, n - 40 + r80 = K := ⟨_, rfl⟩
          have g1 : ((known : Nat) : Int) % 80 = (r80 : Int) := by omega
          have g2 : (n : Int) - 40 + (r80 : Int) = (K : Int) := by omega
          have hr80' : r80 < 80 := by omega
          have hKs : K < 2000 := by omega
          have HL0 := Lib.hid (show LongE wq W4 s w3.heap.size (wq.heap.size + 2) G 0 K from ⟨E4, _, 0, hroad, by rw [rec_len 1 _ (by omega) (by decide)]; decide, by omega, fun _ => rfl⟩)
          have HW4 := Lib.hid hW4
          clear hD3 hS3 hp3 ht3 hc3 hap3 hg3 hroad hW4 HB1 HG2
          go_wp2_with fail
          (with_reducible refine HON.out.mono ?_)
          rintro e w4 ⟨rfl, hw4⟩
          rw [HW4.out] at hw4
          rw [hw4]
          clear hw4 HON HNew HOp HW4 HAT
          go_upto_region 26 with (fail)
          generalize w3.heap.size = x at *
          generalize wq.heap.size + 2 = p at *
          go_wp2_with fail
          clear hK hr80
          go_loopw [115] (fun iv wr => ∃ c : Nat, c ≤ G.length ∧ iv = .int .i64 c ∧ Hid (LongE wq wr s x p G c K)) (fun iv _ => G.length - (intOf iv).toNat)
          case atStart => exact ⟨0, Nat.zero_le _, rfl, HL0⟩
          case round =>
            clear HL0
            obtain ⟨c, hc, rfl, HLE⟩ := hrel
            obtain ⟨wc, hwc⟩ : ∃ wc : World, wc = wr := ⟨_, rfl⟩
            subst hwc
            by_cases hcl : c < G.length
            · obtain ⟨E, T, nx, hR, hT, hnx, hK0⟩ := HLE.out
              obtain ⟨b0, off, rb, rc, rfl, hcell0, hrow0, hrb, hrl, hrc⟩ := HGR.out c hcl
              have hcell := bl_cell hR.bel hcell0
              have hcsl : (comsG (G.take c)).length ≤ 1200 := by rw [comsG_len, List.length_take]; omega
              by_cases hcK : (c : Int) = (K : Int)
              · have hnx0 : nx = 0 := hK0 (by omega)
                have HUs := Lib.hid (zUsual wc)
                have HRD := Lib.hid hR; have HROW := Lib.hid hrow0; have HRB := Lib.hid hrb; have HRL := Lib.hid hrl; have HRC := Lib.hid hrc; have HT := Lib.hid hT; have HNX := Lib.hid hnx0; have HCL := Lib.hid hcsl
                have HCK := Lib.hid (show ¬ (c + 1 ≤ K) by omega)
                have g3 : (n : Int) - 40 + (r80 : Int) = (c : Int) := by omega
                clear hR hrow0 hrb hrl hrc hT hnx0 hcsl hnx hK0 hcell0 hcK g2
                go_wp2_with fail
                (with_reducible refine HUs.out.mono ?_)
                rintro e w5 ⟨rfl, hb5⟩
                have HU := Lib.hid (rUpdate (HRD.out.below hb5) (by have := HT.out; omega) HCL.out (by rw [HNX.out]; omega) usual_okQ)
                clear hb5
                go_wp2_with fail
                unfold srcV at HU
                (with_reducible refine HU.out.mono ?_)
                rintro e w6 ⟨rfl, E6, hR6⟩
                have HAC := Lib.hid (long_add (K := K) hR6 HT.out (by rw [HNX.out]; omega) (fun h => absurd h HCK.out) HFIT.out hcl hGl (HROW.out.below hR6.bel) HRB.out HRL.out HRC.out)
                clear hR6 HU
                go_wp2_with fail
                (with_reducible refine HAC.out.mono ?_)
                rintro e w7 ⟨rfl, hLE⟩
                have HLN := Lib.hid hLE
                clear hLE
                go_wp2_with fail
                go_roundw
                case rel => exact ⟨c + 1, by omega, by go_num, HLN⟩
                case measure => simp [intOf]; omega
              · have HAC := Lib.hid (long_add (K := K) hR hT hnx (fun h => hK0 (by omega)) HFIT.out hcl hGl (hrow0.below hR.bel) hrb hrl hrc)
                clear hR hrow0 hrb hrl hrc hT hcsl hnx hK0 hcell0
                go_wp2_with fail
                (with_reducible refine HAC.out.mono ?_)
                rintro e w7 ⟨rfl, hLE⟩
                have HLN := Lib.hid hLE
                clear hLE
                go_wp2_with fail
                go_roundw
                case rel => exact ⟨c + 1, by omega, by go_num, HLN⟩
                case measure => simp [intOf]; omega
            · have hcG : c = G.length := by omega
              have HLF := Lib.hid (show LongF wq wc s x p G from by have h := HLE.out; rw [hcG] at h; exact h.full hGl)
              go_upto_region 35 with (fail)
              clear HLE hcG hcl hc g1 g2 hr80' hKs
              go_cut [161] from 151 (fun bv wr => bv = .bool false ∧ ∃ E T nx, RoadE wq wr s x p E [[]] (comsG G) T nx)
              case first =>
                by_cases h3 : known % 3 = 0
                · have hd1 : (((known : Nat) : Int) % 3 == 0) = true := by rw [beq_iff_eq]; omega
                  have hd2 : (((known % 3 : Nat) : Int) == 0) = true := by rw [beq_iff_eq]; omega
                  have hd3 : ((known : Nat) : Int) % 3 = 0 := by omega
                  have HUs := Lib.hid (zUsual wc)
                  go_wp2_with fail
                  (with_reducible refine HUs.out.mono ?_)
                  rintro e w5 ⟨rfl, hb5⟩
                  have HU := Lib.hid (long_update (HLF.out.below hb5) hGl)
                  clear hb5
                  go_wp2_with fail
                  (with_reducible refine HU.out.mono ?_)
                  rintro e w6 ⟨rfl, hR6⟩
                  have HR6 := Lib.hid hR6
                  clear hR6
                  go_wp2_with fail
                  go_meet
                  case rel => exact ⟨rfl, HR6.out⟩
                · have hd1 : (((known : Nat) : Int) % 3 == 0) = false := by rw [beq_eq_false_iff_ne]; omega
                  have hd2 : (((known % 3 : Nat) : Int) == 0) = false := by rw [beq_eq_false_iff_ne]; omega
                  have hd3 : ¬ ((known : Nat) : Int) % 3 = 0 := by omega
                  go_wp2_with fail
                  go_meet
                  case rel => exact ⟨rfl, by obtain ⟨E, T, nx, h, _⟩ := HLF.out; exact ⟨E, T, nx, h⟩⟩
              case rest =>
                clear HLF
                obtain ⟨rfl, E, T, nx, hR⟩ := hcut
                obtain ⟨w8, hw8⟩ : ∃ w8 : World, w8 = wc := ⟨_, rfl⟩
                subst hw8
                obtain ⟨k, hV⟩ := long_view hR hGl
                obtain ⟨W9, hW9⟩ : ∃ W9, w8.alloc (.cells #[.pointer (some ⟨s, 0, none⟩), .pointer (some ⟨x, 0, none⟩)] 112) = W9 := ⟨_, rfl⟩
                rw [hW9] at hV
                have hb9 : Below w8.heap.size w8 W9 := by rw [← hW9]; exact bl_alloc (Below.refl _ _) _
                have hvn : Calls Tryz.prog 20 #[.pointer (some ⟨s, 0, none⟩), .pointer (some ⟨x, 0, none⟩)] w8 fun e w' => e = .returned (.pointer (some ⟨w8.heap.size, 0, none⟩)) ∧ w' = W9 := (vNew s x w8).mono fun e w' ⟨h1, h2⟩ => ⟨h1, h2.trans hW9⟩
                have hq9 : Below wq.heap.size wq W9 := bl_trans hR.bel hb9
                obtain ⟨vb, hvb⟩ : ∃ vb, w8.heap.size = vb := ⟨_, rfl⟩
                rw [hvb] at hV hvn
                have HVN := Lib.hid hvn
                have HV := Lib.hid hV
                have HGA9 := Lib.hid (HGA.out.below hq9)
                have HTZ9 := Lib.hid (HTZ.out.below (bl_trans HBQ.out hq9))
                have HB09 := Lib.hid (bl_trans HBQ.out hq9)
                obtain ⟨n4, hn4⟩ : ∃ n4, n - 4 = n4 := ⟨_, rfl⟩
                have hn4l : n4 ≤ G.length := by omega
                have f5 : (n : Int) - 4 = (n4 : Int) := by omega
                have f6 : max (0 : Int) (n4 : Int) = (n4 : Int) := by omega
                have f7 : (if (0 : Int) ≤ (n4 : Int) then (n4 : Int) else 0) = (n4 : Int) := by split <;> omega
                have f8 : (if (n4 : Int) ≤ 0 then (0 : Int) else (n4 : Int)) = (n4 : Int) := by split <;> omega
                clear hR hV hW9 hb9 hvn hq9 hvb HGA HTZ HBQ HSQ HGR hn4
                go_wp2_with fail
                (with_reducible refine HVN.out.mono ?_)
                rintro e w9 ⟨rfl, hw9⟩
                rw [hw9]
                clear hw9 HVN
                go_wp2_with fail
                go_loopw [26] (fun av wr => ∃ a : Nat, a ≤ G.length ∧ av = .int .i64 a ∧ Hid (Below W9.heap.size W9 wr)) (fun av _ => G.length - (intOf av).toNat)
                case atStart => exact ⟨n4, hn4l, rfl, Lib.hid (Below.refl _ _)⟩
                case round =>
                  obtain ⟨a, ha, rfl, HBA⟩ := hrel
                  obtain ⟨wa, hwa⟩ : ∃ wa : World, wa = wr := ⟨_, rfl⟩
                  subst hwa
                  by_cases hal : a < G.length
                  · have HUp := Lib.hid (rUp (gc := vc) (HGA9.out.below HBA.out) HFIT.out.low hal (by omega) HFIT.out.few)
                    go_wp2_with fail
                    (with_reducible refine HUp.out.mono ?_)
                    rintro e wu ⟨g0, rfl, hbo, hbu⟩
                    have HBO := Lib.hid hbo
                    have HBU := Lib.hid (bl_trans HBA.out hbu)
                    clear hbo hbu HUp
                    go_wp2_with fail
                    go_loopw [28] (fun bv wr => ∃ b : Nat, b ≤ G.length ∧ bv = .int .i64 b ∧ Hid (Below wu.heap.size wu wr)) (fun bv _ => G.length - (intOf bv).toNat)
                    case atStart => exact ⟨n4, hn4l, rfl, Lib.hid (Below.refl _ _)⟩
                    case round =>
                      obtain ⟨b, hb, rfl, HBB⟩ := hrel
                      obtain ⟨wb, hwb⟩ : ∃ wb : World, wb = wr := ⟨_, rfl⟩
                      subst hwb
                      by_cases hbl : b < G.length
                      · have hbx := bl_trans HBU.out HBB.out
                        have hia := aIsAnc (HV.out.below hbx) b a (by rw [comsG_len]; exact hbl) (by rw [comsG_len]; exact hal)
                        unfold viewV at hia
                        rw [comsG_gr] at hia
                        have HIA := Lib.hid hia
                        have HBX := Lib.hid hbx
                        clear hia hbx
                        go_wp2_with fail
                        (with_reducible refine HIA.out.mono ?_)
                        rintro e w1 ⟨rfl, hb1⟩
                        have hx1 := bl_trans HBX.out hb1
                        have hpm := pMerge (a := a) (x := b) (HV.out.below hx1) (HTZ9.out.below hx1) (by rw [comsG_len]; exact hal) (by rw [comsG_len]; exact hbl)
                        unfold viewV at hpm
                        rw [comsG_gr, comsG_len] at hpm
                        have HPM := Lib.hid hpm
                        have HX1 := Lib.hid hx1; have HB1 := Lib.hid hb1
                        clear hpm hx1 hb1 HIA HBX
                        go_wp2_with fail
                        (with_reducible refine HPM.out.mono ?_)
                        rintro e w2 ⟨vl, rfl, hol, hb2⟩
                        have hx2 := bl_trans HX1.out hb2
                        have HRM := Lib.hid (rMerge (gc := vc) (a := a) (x := b) (HGA9.out.below hx2) HFIT.out.low hal hbl (by omega) HFIT.out.few)
                        have HB2 := Lib.hid hb2; have HOL := Lib.hid hol
                        clear hx2 hb2 hol HPM HX1
                        go_wp2_with fail
                        (with_reducible refine HRM.out.mono ?_)
                        rintro e w3 ⟨vm, rfl, hom, hb3⟩
                        obtain ⟨la, lc, rfl, hlc, _⟩ := HOL.out.sl
                        obtain ⟨ma, mc, rfl, hmc, _⟩ := hom.sl
                        have hu3 := bl_trans (bl_trans (bl_trans HBB.out HB1.out) HB2.out) hb3
                        obtain ⟨hcu, _⟩ := (HBO.out.below hu3).cell hbl
                        have HSL := Lib.hid (rSameList (c1 := lc) (c2 := mc) (hlc.below hb3) hmc (Nat.le_trans (listF_few _ _) (by omega)))
                        have HU3 := Lib.hid hu3
                        clear hlc hmc hu3 HRM HB1 HB2 HOL hom hb3
                        generalize ancB G a b = z at *
                        cases z
                        · go_wp2_with fail
                          (with_reducible refine HSL.out.mono ?_)
                          rintro e w4 ⟨rfl, hb4⟩
                          have HU4 := Lib.hid (bl_trans HU3.out hb4)
                          clear hb4 HSL
                          go_wp2_with fail
                          go_roundw
                          case rel => exact ⟨b + 1, by omega, by go_num, HU4⟩
                          case measure => simp [intOf]; omega
                        · go_wp2_with fail
                          (with_reducible refine HSL.out.mono ?_)
                          rintro e w4 ⟨rfl, hb4⟩
                          have HU4 := Lib.hid (bl_trans HU3.out hb4)
                          clear hb4 HSL
                          go_wp2_with fail
                          go_roundw
                          case rel => exact ⟨b + 1, by omega, by go_num, HU4⟩
                          case measure => simp [intOf]; omega
                      · have HE := Lib.hid (bl_trans HBU.out HBB.out)
                        go_wp2_with fail
                        go_roundw
                        case rel => exact ⟨a + 1, by omega, by go_num, HE⟩
                        case measure => simp [intOf]; omega
                  · have HE := Lib.hid (bl_trans HB09.out HBA.out)
                    go_wp2_with fail
                    go_ret
                    exact ⟨rfl, HE.out⟩
end Go.Proofs.YtbhfbdcmamodcaaGreatDoor
