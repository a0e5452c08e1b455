/- The whole: the index is read from its disk; The store, the disk and the index, all together: updates, rows, and the index read anew; WholeLong: the view, walked; WholeLong: the view, walked: a row, parents, generations; may one reach the other; WholeLong: may a commit of one generation reach another one (gen.May); WholeLong: a graph as it lies: a slice of slices of numbers; Layer 19 (walk), walked: how many commits; what is asked; Layer 19 (walk), walked: what waits; adding; WholeLong: what is left, counted: in the plain, and in the world. -/
import Derived.Test.YtbhfbdcmamodcaaGreatDoorL47
import Derived.Test.YtbhfbdcmamodcaaGreatDoorL46
import Derived.Test.YtbhfbdcmamodcaaGreatDoorL45
import Derived.Test.YtbhfbdcmamodcaaGreatDoorL18
import Derived.Test.YtbhfbdcmamodcaaGreatDoorL38
import Derived.Test.YtbhfbdcmamodcaaGreatDoorL07
import Derived.Test.YtbhfbdcmamodcaaGreatDoorL01
import Derived.Deep.AppendLies
import Derived.Deep.Cut
set_option linter.unusedVariables false
set_option linter.unusedSimpArgs false
namespace Go.Proofs.YtbhfbdcmamodcaaGreatDoor
open Go.RowKit Go.Maps TrMath FrMath PackMath SumMath
theorem offDisk {w : World} {p q : Nat} {F : Foot} {v : View} (hD : Disk w p F v q) : w.cell? ⟨p, 6, none⟩ = some (.bool false) := by
  obtain ⟨d, hd, _⟩ := hD
  obtain ⟨_, _, hb⟩ := hd.box
  rw [cell_of_row _ _ _ _ _ _ hb]
  rfl
set_option maxHeartbeats 4000000 in
set_option maxRecDepth 100000 in
theorem xOpenNone {w : World} {p q : Nat} {F : Foot} {v : View} (hD : Disk w p F v q) (hn : chainN ∉ v.map Prod.fst) (N : Nat) :
    Calls Tryz.prog 31 #[.pointer (some ⟨p, 0, none⟩), .int .i64 (N : Nat)] w fun e w' => e = .returned (.tuple #[.pointer (some ⟨w.heap.size, 0, none⟩), .int .i64 0]) ∧ w' = w.alloc (.cells #[.pointer (some ⟨p, 0, none⟩), .slice none 0 0, .slice none 0 0] 97) := by
  have HOf := Lib.hid (sOff p w (offDisk hD))
  have HRd := Lib.hid (dReadNone p q F v chainN (w.alloc (.cells #[.pointer (some ⟨p, 0, none⟩), .slice none 0 0, .slice none 0 0] 97)) (hD.below (bl_alloc (Below.refl _ _) _)) (by decide) hn)
  clear hD hn
  go_enter Tryz.func31, Tryz.ntmps31
  go_wp2_with fail
  (with_reducible refine HOf.out.mono ?_)
  rintro e w2 ⟨rfl, rfl⟩
  go_wp2_with fail
  (with_reducible refine HRd.out.mono ?_)
  rintro e w3 ⟨rfl, rfl⟩
  go_wp2
  exact bodyPost_ret (v := .tuple #[.pointer (some ⟨w2.heap.size, 0, none⟩), .int .i64 0]) (by simp [results, Tryz.results31, go_sem]) rfl ⟨rfl, rfl⟩
end Go.Proofs.YtbhfbdcmamodcaaGreatDoor
namespace Go.Proofs.YtbhfbdcmamodcaaGreatDoor
open Go.RowKit Go.Maps TrMath FrMath PackMath SumMath
section
variable {w w' : World} {B s x p : Nat} {E : Foot} {ts : List Ents} {cs : List ComP} {T : List UInt8} {gs : List GraphP} {k nx : Nat}
theorem Grew.same (hb : Below w.heap.size w w') (hE : ∀ j, E j → j < w.heap.size) : Grew E E w w' := (Grew.refl hE).thenB hb
theorem gens_map (G : List GrE) : genAll G = (G.map GrE.g).flatMap fun g => genRows g.rows := by
  unfold genAll
  induction G with
  | nil => rfl
  | cons e r ih => rw [List.flatMap_cons, List.map_cons, List.flatMap_cons, ih]
theorem Parts.total {S : StoreS} {I : IndexS} {R F : Foot} {v : View} {q : Nat} (P : Parts w s x p E ts cs T gs nx S I R F v q) (hl : Layd ts cs gs k) : totalL I.links = k := by
  unfold totalL
  rw [P.has.counts, hl.sum]
theorem linkOf_len (n : Nat) (Q : SetP) (ts : List Ents) (cs : List ComP) (k : Nat) : (linkOf n (allG Q ts cs k)).2.1 = cs.length - k := by
  show (rowsFrom Q ts cs k (cs.length - k)).length = _
  rw [rowsFrom_len]
theorem wUpdate (h : WholeAt w B s x p E ts cs T gs k nx) (hT : T.length ≤ 524288) (hc : cs.length ≤ 1200) (hnx : nx < 99) {Q : SetP} (hQ : OkQ Q) :
    Calls Tryz.prog 12 #[.pointer (some ⟨x, 0, none⟩), srcV s, .agg #[.int .i64 (Q.H : Nat), .int .i64 (Q.P : Nat), .int .i64 (Q.M : Nat), .int .u32 (Q.S : Nat)]] w fun e w' => e = .returned (.int .i64 0) ∧ ∃ E' gs', WholeAt w' B s x p E' ts cs T gs' cs.length (nx + 1) ∧ Grew E E' w w' := by
  obtain ⟨S, I, R, F, v, q, P⟩ := h.ex
  have ok := P.ok h.layd h.good h.syn h.synB h.low hT hc
  have hk := P.total h.layd
  have hkl := h.layd.le
  have hn := P.nxt
  have hSl : S.commits.length = cs.length := by rw [← P.cm, List.length_map]
  have h8 := P.l8
  by_cases hfull : k = cs.length
  · subst hfull
    refine (xUpdateNone P.st P.idx Q hQ.chk (by omega) (by omega) (by omega)).mono fun e w' ⟨h1, hb⟩ => ⟨h1, E, gs, (h.below hb).more (Nat.le_succ _), Grew.same hb h.lt⟩
  · by_cases hl8 : I.links.length = 8
    · have hgd := layer_good h.good hc hQ (k := 0) (m := cs.length) (by omega)
      have hgc : GoodChain [linkOf (nextN I.links) (allG Q ts cs 0)] := by
        refine ⟨by simp, fun y hy => ?_, fun y hy => ?_, fun y hy => ?_, by simp, ?_⟩
        · rw [List.mem_singleton.1 hy]; show nextN I.links ≤ 1073741824; omega
        · rw [List.mem_singleton.1 hy, linkOf_len]; omega
        · rw [List.mem_singleton.1 hy]; exact crc_lt _
        · show (linkOf (nextN I.links) (allG Q ts cs 0)).2.1 + 0 ≤ 65536; rw [linkOf_len]; omega
      refine (xUpdateFull P.st ts cs P.tr P.cm h.good ok Q hQ.chk hQ.set.S (by omega) hl8 hgd.1 hgd.2 (nextN I.links) rfl (by omega) hgc).mono fun e w' ⟨h1, h2⟩ => ⟨h1, ?_⟩
      have hlay : Layd ts cs [allG Q ts cs 0] cs.length := by
        have := Layd.push (ts := ts) (cs := cs) (m := cs.length) .nil hQ (by omega) (by omega)
        rw [Nat.zero_add] at this
        exact this
      obtain ⟨E', k1, k2⟩ := P.upTo h.good h.syn h.synB h.low h2 (fun hd => P.has.lay (by omega) (fun y hy => by have := next_gt I.links y hy; omega) (allG Q ts cs 0) (L0 := []) (gs0 := []) (.inr ⟨rfl, rfl⟩) hd) (by simp) (nx' := nx + 1) (by rw [next_one]; omega) (by simp) hlay
      exact ⟨E', _, k1, k2⟩
    · have hgd := layer_good h.good hc hQ (k := k) (m := cs.length - k) (by omega)
      have hgc : GoodChain (I.links ++ [linkOf (nextN I.links) (allG Q ts cs k)]) := by
        have g0 := P.has.chainOk h.layd hc h8 P.alone
        refine ⟨by rw [List.length_append]; simp; omega, fun y hy => ?_, fun y hy => ?_, fun y hy => ?_, ?_, ?_⟩
        · rcases List.mem_append.1 hy with hy | hy
          · exact g0.num y hy
          · rw [List.mem_singleton.1 hy]; show nextN I.links ≤ 1073741824; omega
        · rcases List.mem_append.1 hy with hy | hy
          · exact g0.cnt y hy
          · rw [List.mem_singleton.1 hy, linkOf_len]; omega
        · rcases List.mem_append.1 hy with hy | hy
          · exact g0.sum y hy
          · rw [List.mem_singleton.1 hy]; exact crc_lt _
        · rw [List.map_append, List.nodup_append]
          refine ⟨P.alone, by simp, fun a ha b hb e => ?_⟩
          obtain ⟨y, hy, rfl⟩ := List.mem_map.1 ha
          simp [linkOf] at hb
          have := next_gt I.links y hy
          omega
        · unfold totalL at hk ⊢
          rw [List.map_append, List.sum_append, hk]
          simp only [List.map_cons, List.map_nil, List.sum_cons, List.sum_nil, linkOf_len]
          omega
      have hgen : genAll I.graphs = gensN cs k := by rw [gens_map, P.gr, h.layd.gens]
      have hgl : I.graphs.length = I.links.length := by rw [P.has.len, ← P.gr, List.length_map]
      refine (xUpdate P.st ts cs P.tr P.cm h.good ok Q hQ.chk hQ.set.S k hk (by omega) hgen (by omega) (by omega) hgd.1 hgd.2 (nextN I.links) rfl (by omega) hgc).mono fun e w' ⟨h1, h2⟩ => ⟨h1, ?_⟩
      have hlay : Layd ts cs (I.graphs.map GrE.g ++ [allG Q ts cs k]) cs.length := by
        rw [P.gr]
        have := Layd.push (m := cs.length - k) h.layd hQ (by omega) (by omega)
        rw [show k + (cs.length - k) = cs.length from by omega] at this
        exact this
      obtain ⟨E', k1, k2⟩ := P.upTo h.good h.syn h.synB h.low h2 (fun hd => P.has.lay (by omega) (fun y hy => by have := next_gt I.links y hy; omega) (allG Q ts cs k) (L0 := I.links) (gs0 := I.graphs.map GrE.g) (.inl ⟨rfl, P.gr⟩) hd) (by rw [List.length_append]; simp; omega) (nx' := nx + 1) (by rw [next_push _ _ _ (Nat.le_refl _)]; omega) hgc.alone hlay
      exact ⟨E', _, k1, k2⟩
theorem wLen (h : WholeAt w B s x p E ts cs T gs k nx) (hc : cs.length ≤ 1200) : Calls Tryz.prog 16 #[.pointer (some ⟨x, 0, none⟩)] w fun e w' => e = .returned (.int .i64 (k : Nat)) ∧ Below w.heap.size w w' := by
  obtain ⟨S, I, R, F, v, q, P⟩ := h.ex
  have hk := P.total h.layd
  have hkl := h.layd.le
  have := xLen P.idx (by have := P.l8; omega) (by omega)
  rwa [hk] at this
theorem wRow (h : WholeAt w B s x p E ts cs T gs k nx) (hc : cs.length ≤ 1200) (n : Nat) (hn : n < k) : ∃ Q, Calls Tryz.prog 297 #[.pointer (some ⟨x, 0, none⟩), .int .i64 (n : Nat)] w (RowSaid w (rowN Q ts cs n)) := by
  obtain ⟨S, I, R, F, v, q, P⟩ := h.ex
  have hk := P.total h.layd
  have hkl := h.layd.le
  obtain ⟨t, ht, Q, e1, e2, e3, e4⟩ := h.layd.find n hn
  have hgl : I.graphs.length = gs.length := by rw [← P.gr, List.length_map]
  have key : ∀ j (hj : j < I.graphs.length), (I.graphs[j]).g = gs[j]'(by omega) := fun j hj => by
    have : gs[j]? = some (I.graphs[j]).g := by rw [← P.gr, List.getElem?_map, List.getElem?_eq_getElem hj]; rfl
    rw [List.getElem?_eq_getElem (by omega)] at this
    exact (Option.some.inj this).symm
  refine ⟨Q, xRowGo rfl (by have := (h.good.getD (n := n) (by omega)).1.few; show (cs.getD n ([], 0)).1.length ≤ 1000; omega) (Q := (I.graphs[t]'(by omega)).g.set) ?_⟩
  have hb := bl_alloc (Below.refl w.heap.size w) (.cells #[.slice none 0 0, .int .i64 0, .int .i64 0, .int .i64 0, .string ⟨#[]⟩] 188)
  refine xFindTry (P.idx.below hb) (by have := P.l8; omega) (by omega) n (by omega) I.graphs rfl (by have := P.l8; have := P.has.len; omega) (fun e he => ?_) t (by omega) (by rw [key]; exact e1) (by rw [key]; exact e2) (fun j hj hjt => by rw [key]; exact e3 j (by omega) hjt) _ (by rw [key]; exact e4)
  have := (h.layd.pos e.g (by rw [← P.gr]; exact List.mem_map.2 ⟨e, he, rfl⟩)).2
  omega
end
set_option maxRecDepth 100000 in
theorem wOpenNew {w : World} {p q : Nat} {F : Foot} {v : View} (hD : Disk w p F v q) (hn : chainN ∉ v.map Prod.fst) : Calls Tryz.prog 7 #[.pointer (some ⟨p, 0, none⟩), .int .i64 0] w fun e w' => e = .returned (.pointer (some ⟨w.heap.size, 0, none⟩)) ∧ w' = w.alloc (.cells #[.pointer (some ⟨p, 0, none⟩), .slice none 0 0, .slice none 0 0] 97) := by
  have HO := Lib.hid (show Calls Tryz.prog 31 #[.pointer (some ⟨p, 0, none⟩), .int .i64 0] w fun e w' => e = .returned (.tuple #[.pointer (some ⟨w.heap.size, 0, none⟩), .int .i64 0]) ∧ w' = w.alloc (.cells #[.pointer (some ⟨p, 0, none⟩), .slice none 0 0, .slice none 0 0] 97) from xOpenNone hD hn 0)
  clear hD hn
  go_enter Tryz.func7, Tryz.ntmps7
  go_wp2_with fail
  (with_reducible refine HO.out.mono ?_)
  rintro e w2 ⟨rfl, hu⟩
  have HU := Lib.hid hu
  clear hu
  go_wp2
  go_ret
  exact ⟨rfl, HU.out⟩
end Go.Proofs.YtbhfbdcmamodcaaGreatDoor
namespace Go.Proofs.YtbhfbdcmamodcaaGreatDoor
open Go.RowKit Go.Maps TrMath FrMath PackMath SumMath LgMath
def ViewAt (w : World) (b : Nat) (cs : List ComP) (k : Nat) : Prop := ∃ (B s x p : Nat) (E : Foot) (ts : List Ents) (T : List UInt8) (gs : List GraphP) (nx : Nat), w.heap[b]? = some (.cells #[.pointer (some ⟨s, 0, none⟩), .pointer (some ⟨x, 0, none⟩)] 112 (0, 0)) ∧ WholeAt w B s x p E ts cs T gs k nx ∧ cs.length ≤ 1200
section
variable {w w' : World} {b k n : Nat} {cs : List ComP}
theorem ViewAt.below (h : ViewAt w b cs k) (hb : Below w.heap.size w w') : ViewAt w' b cs k := by
  obtain ⟨B, s, x, p, E, ts, T, gs, nx, h1, h2, h3⟩ := h
  exact ⟨B, s, x, p, E, ts, T, gs, nx, (hb.block _ (Array.getElem?_eq_some_iff.1 h1).1).trans h1, h2.below hb, h3⟩
theorem ViewAt.few (h : ViewAt w b cs k) : cs.length ≤ 1200 ∧ k ≤ cs.length := by
  obtain ⟨B, s, x, p, E, ts, T, gs, nx, h1, h2, h3⟩ := h
  exact ⟨h3, h2.layd.le⟩
theorem ViewAt.low (h : ViewAt w b cs k) : LowG (grC cs) := by
  obtain ⟨B, s, x, p, E, ts, T, gs, nx, h1, h2, h3⟩ := h
  exact h2.good.lowG
theorem wCommits' {B s x p : Nat} {E : Foot} {ts : List Ents} {T : List UInt8} {gs : List GraphP} {nx : Nat} (P : WholeAt w B s x p E ts cs T gs k nx) : Calls Tryz.prog 15 #[.pointer (some ⟨s, 0, none⟩)] w fun e w' => e = .returned (.int .i64 (cs.length : Nat)) ∧ w' = w := by
  obtain ⟨S, I, R, F, v, q, Q⟩ := P.ex
  have := sCommits Q.st
  rwa [← List.length_map (f := Prod.snd), Q.cm] at this
theorem wCommit' {B s x p : Nat} {E : Foot} {ts : List Ents} {T : List UInt8} {gs : List GraphP} {nx : Nat} (P : WholeAt w B s x p E ts cs T gs k nx) (hc : cs.length ≤ 1200) (hn : n < cs.length) :
    Calls Tryz.prog 290 #[.pointer (some ⟨s, 0, none⟩), .int .i64 (n : Nat)] w fun e w' => ∃ v t, e = .returned (.tuple #[.agg #[v, .int .i64 ((t : Nat) : Int)], .int .i64 0]) ∧ OwnX 3 1 natV w' w.heap.size v (par (grC cs) n) ∧ Below w.heap.size w w' := by
  obtain ⟨S, I, R, F, v, q, Q⟩ := P.ex
  obtain ⟨c, h1, h2, h3, h4⟩ := P.good.com hn
  obtain ⟨ps, t⟩ := c
  have hp : par (grC cs) n = ps := by rw [grC_par, List.getD_eq_getElem?_getD, h1]; rfl
  rw [hp]
  have hsl : S.commits.length = cs.length := by rw [← Q.cm, List.length_map]
  refine (sCommit Q.st n ps t (by rw [Q.cm]; exact h1) (by have := h2.few; simp only at this; omega) (by omega)).mono fun e w' ⟨v, e1, e2, e3⟩ => ⟨v, t, e1, e2, e3⟩
set_option maxRecDepth 100000 in
theorem vCommits (h : ViewAt w b cs k) : Calls Tryz.prog 292 #[.pointer (some ⟨b, 0, none⟩)] w fun e w' => e = .returned (.int .i64 (cs.length : Nat)) ∧ w' = w := by
  obtain ⟨B, s, x, p, E, ts, T, gs, nx, h1, h2, h3⟩ := h
  have c0 : w.cell? ⟨b, 0, none⟩ = some (.pointer (some ⟨s, 0, none⟩)) := by rw [cell_of_row _ _ _ _ _ _ h1]; rfl
  have HC := Lib.hid (wCommits' h2)
  clear h1 h2
  go_enter Tryz.func292, Tryz.ntmps292
  go_wp2_with fail
  (with_reducible refine HC.out.mono ?_)
  rintro e w1 ⟨rfl, rfl⟩
  go_wp2
  go_ret
  exact ⟨rfl, rfl⟩
set_option maxRecDepth 100000 in
theorem vIndexed (h : ViewAt w b cs k) : Calls Tryz.prog 296 #[.pointer (some ⟨b, 0, none⟩)] w fun e w' => e = .returned (.int .i64 (k : Nat)) ∧ Below w.heap.size w w' := by
  have HV := Lib.hid (fun W (hb : Below w.heap.size w W) => vCommits (h.below hb))
  obtain ⟨f1, f2⟩ := h.few
  obtain ⟨B, s, x, p, E, ts, T, gs, nx, h1, h2, h3⟩ := h
  have c1 : w.cell? ⟨b, 1, none⟩ = some (.pointer (some ⟨x, 0, none⟩)) := by rw [cell_of_row _ _ _ _ _ _ h1]; rfl
  have HL := Lib.hid (wLen h2 h3)
  have hmn : min (k : Int) (cs.length : Int) = (k : Int) := by omega
  have hmnf : (if (k : Int) ≤ (cs.length : Int) then (k : Int) else (cs.length : Int)) = (k : Int) := by split <;> omega
  clear h1 h2
  go_enter Tryz.func296, Tryz.ntmps296
  go_wp2_with fail
  (with_reducible refine HL.out.mono ?_)
  rintro e w1 ⟨rfl, hb⟩
  have HC := Lib.hid (HV.out w1 hb)
  have HB := Lib.hid hb
  clear hb
  go_wp2_with fail
  (with_reducible refine HC.out.mono ?_)
  rintro e w2 ⟨rfl, rfl⟩
  go_wp2
  go_ret
  exact ⟨rfl, HB.out⟩
end
end Go.Proofs.YtbhfbdcmamodcaaGreatDoor
namespace Go.Proofs.YtbhfbdcmamodcaaGreatDoor
open Go.RowKit Go.Maps TrMath FrMath PackMath SumMath LgMath
def ViewRow (w : World) (cs : List ComP) (k n : Nat) (e : Ending) (w' : World) : Prop := ∃ pa pc t st bits, e = .returned (.tuple #[.agg #[.slice pa (par (grC cs) n).length pc, .int .i64 t, .int .i64 (genV cs k n : Nat), .int .i64 st, .string bits], .bool true]) ∧ OwnX 3 1 natV w' w.heap.size (.slice pa (par (grC cs) n).length pc) (par (grC cs) n) ∧ Below w.heap.size w w'
section
variable {w w' : World} {b k n : Nat} {cs : List ComP}
theorem ViewAt.cells (h : ViewAt w b cs k) : ∃ s x : Nat, (∀ W, Below w.heap.size w W → W.cell? ⟨b, 0, none⟩ = some (.pointer (some ⟨s, 0, none⟩)) ∧ W.cell? ⟨b, 1, none⟩ = some (.pointer (some ⟨x, 0, none⟩))) ∧
    (∀ W n, Below w.heap.size w W → n < k → ∃ t st bits, Calls Tryz.prog 297 #[.pointer (some ⟨x, 0, none⟩), .int .i64 (n : Nat)] W fun e w' => ∃ pa pc, e = .returned (.tuple #[.agg #[.slice pa (par (grC cs) n).length pc, .int .i64 t, .int .i64 (genAt cs n : Nat), .int .i64 st, .string bits], .bool true]) ∧ OwnX 3 1 natV w' W.heap.size (.slice pa (par (grC cs) n).length pc) (par (grC cs) n) ∧ Below W.heap.size W w') ∧
    (∀ W n, Below w.heap.size w W → n < cs.length → Calls Tryz.prog 290 #[.pointer (some ⟨s, 0, none⟩), .int .i64 (n : Nat)] W fun e w' => ∃ v t, e = .returned (.tuple #[.agg #[v, .int .i64 ((t : Nat) : Int)], .int .i64 0]) ∧ OwnX 3 1 natV w' W.heap.size v (par (grC cs) n) ∧ Below W.heap.size W w') := by
  obtain ⟨B, s, x, p, E, ts, T, gs, nx, h1, h2, h3⟩ := h
  refine ⟨s, x, fun W hb => ?_, fun W n hb hn => ?_, fun W n hb hn => wCommit' (h2.below hb) h3 hn⟩
  · have h4 := (hb.block _ (Array.getElem?_eq_some_iff.1 h1).1).trans h1
    exact ⟨by rw [cell_of_row _ _ _ _ _ _ h4]; rfl, by rw [cell_of_row _ _ _ _ _ _ h4]; rfl⟩
  · obtain ⟨Q, hQ⟩ := wRow (h2.below hb) h3 n hn
    refine ⟨((rowN Q ts cs n).tree : Nat), ((rowN Q ts cs n).st : Nat), (rowN Q ts cs n).bits, hQ.mono fun e w' ⟨pa, pc, e1, e2, e3⟩ => ?_⟩
    have hp : (rowN Q ts cs n).parents = par (grC cs) n := by rw [grC_par]; rfl
    rw [hp] at e1 e2
    exact ⟨pa, pc, e1, e2, e3⟩
set_option maxHeartbeats 4000000 in
set_option maxRecDepth 100000 in
theorem vRow (h : ViewAt w b cs k) (hn : n < cs.length) : Calls Tryz.prog 295 #[.pointer (some ⟨b, 0, none⟩), .int .i64 (n : Nat)] w (ViewRow w cs k n) := by
  obtain ⟨s, x, hcl, hrow, hcom⟩ := h.cells
  obtain ⟨f1, f2⟩ := h.few
  obtain ⟨W1, hW1⟩ : ∃ W1, w.alloc (.cells #[.slice none 0 0, .int .i64 0, .int .i64 0, .int .i64 0, .string ⟨#[]⟩] 188) = W1 := ⟨_, rfl⟩
  have hb1 : Below w.heap.size w W1 := by rw [← hW1]; exact bl_alloc (Below.refl _ w) _
  have hs1 : W1.heap[w.heap.size]? = some (.cells #[.slice none 0 0, .int .i64 0, .int .i64 0, .int .i64 0, .string ⟨#[]⟩] 188 (0, 0)) := by rw [← hW1]; exact heap_alloc_new _ _
  have HV := Lib.hid (vCommits (h.below hb1)); have HI := Lib.hid (vIndexed (h.below hb1))
  have g1 : decide ((n : Int) < 0) = false := by simp
  have g2 : decide ((n : Int) ≥ (cs.length : Int)) = false := by simp; omega
  have g3 : decide (cs.length ≤ n) = false := by simp; omega
  have HCL := Lib.hid hcl; have HB1 := Lib.hid hb1; have HS1 := Lib.hid hs1; have HW1 := Lib.hid hW1; have HROW := Lib.hid hrow; have HCOM := Lib.hid hcom; have HNN := Lib.hid hn
  clear h hcl hrow hcom hb1 hs1 hW1
  by_cases hk : n < k
  · have g4 : decide ((n : Int) < (k : Int)) = true := decide_eq_true (by omega)
    have g5 : decide (n < k) = true := decide_eq_true hk
    have HG := Lib.hid (show genV cs k n = genAt cs n from if_pos hk)
    have HKK := Lib.hid hk
    clear hk hn
    go_enter Tryz.func295, Tryz.ntmps295
    go_upto_region 1 with (fail)
    rw [HW1.out]
    go_wp2_with fail
    (with_reducible refine HV.out.mono ?_)
    rintro e w1 ⟨rfl, rfl⟩
    go_wp2_with fail
    (with_reducible refine HI.out.mono ?_)
    rintro e w2 ⟨rfl, hb2⟩
    have hb02 := bl_trans HB1.out hb2
    obtain ⟨c0, c1⟩ := HCL.out w2 hb02
    obtain ⟨t, st, bits, hR⟩ := HROW.out w2 n hb02 HKK.out
    have HR := Lib.hid hR; have HB2 := Lib.hid hb2; have HB02 := Lib.hid hb02
    clear hR hb2 hb02 c0
    go_wp2_with fail
    (with_reducible refine HR.out.mono ?_)
    rintro e w3 ⟨pa, pc, rfl, ho, hb3⟩
    have hz := (Array.getElem?_eq_some_iff.1 HS1.out).1
    have hz2 := HB2.out.size
    have hr3 : w3.heap[w.heap.size]? = _ := (hb3.block _ (by omega)).trans ((HB2.out.block _ hz).trans HS1.out)
    have fz : ∀ j, w3.frozen? ⟨w.heap.size, j, none⟩ = false := fun j => frozen_of_row _ _ _ _ _ hr3
    have q0 := fz 0; have q1 := fz 1; have q2 := fz 2; have q3 := fz 3; have q4 := fz 4
    have e0 : w3.cell? ⟨w.heap.size, 0, none⟩ = some (.slice none 0 0) := by rw [cell_of_row _ _ _ _ _ _ hr3]; rfl
    have e1 : w3.cell? ⟨w.heap.size, 1, none⟩ = some (.int .i64 0) := by rw [cell_of_row _ _ _ _ _ _ hr3]; rfl
    have e2 : w3.cell? ⟨w.heap.size, 2, none⟩ = some (.int .i64 0) := by rw [cell_of_row _ _ _ _ _ _ hr3]; rfl
    have e3 : w3.cell? ⟨w.heap.size, 3, none⟩ = some (.int .i64 0) := by rw [cell_of_row _ _ _ _ _ _ hr3]; rfl
    have e4 : w3.cell? ⟨w.heap.size, 4, none⟩ = some (.string ⟨#[]⟩) := by rw [cell_of_row _ _ _ _ _ _ hr3]; rfl
    obtain ⟨L, hL⟩ : ∃ L, (par (grC cs) n).length = L := ⟨_, rfl⟩
    have hX := five_row hr3 (.slice pa L pc) (.int .i64 t) (.int .i64 (genAt cs n : Nat)) (.int .i64 st) (.string bits)
    have hU := five_upd w3 w.heap.size (.slice pa L pc) (.int .i64 t) (.int .i64 (genAt cs n : Nat)) (.int .i64 st) (.string bits)
    obtain ⟨X, hXX⟩ : ∃ X, five w3 w.heap.size (.slice pa L pc) (.int .i64 t) (.int .i64 (genAt cs n : Nat)) (.int .i64 st) (.string bits) = X := ⟨_, rfl⟩
    rw [hXX] at hX hU
    rw [hL] at ho ⊢
    have x0 : X.cell? ⟨w.heap.size, 0, none⟩ = some (.slice pa L pc) := by rw [cell_of_row _ _ _ _ _ _ hX]; rfl
    have x1 : X.cell? ⟨w.heap.size, 1, none⟩ = some (.int .i64 t) := by rw [cell_of_row _ _ _ _ _ _ hX]; rfl
    have x2 : X.cell? ⟨w.heap.size, 2, none⟩ = some (.int .i64 (genAt cs n : Nat)) := by rw [cell_of_row _ _ _ _ _ _ hX]; rfl
    have x3 : X.cell? ⟨w.heap.size, 3, none⟩ = some (.int .i64 st) := by rw [cell_of_row _ _ _ _ _ _ hX]; rfl
    have x4 : X.cell? ⟨w.heap.size, 4, none⟩ = some (.string bits) := by rw [cell_of_row _ _ _ _ _ _ hX]; rfl
    have hbX : Below w.heap.size w X := (bl_trans HB02.out hb3).trans (hU.below (fun i e => by have : i = w.heap.size := e; omega) (by have := HB02.out.size; have := hb3.size; omega))
    have hoX : OwnX 3 1 natV X w.heap.size (.slice pa L pc) (par (grC cs) n) := by
      refine OwnX.mono (B := w2.heap.size) (ho.stays fun g e => ?_) (by omega)
      obtain ⟨g1, g2⟩ := ho.lt g e
      exact hU.block g g2 (fun e2 => by have e3 : g = w.heap.size := e2; omega)
    have HX := Lib.hid hXX; have HBX := Lib.hid hbX; have HOX := Lib.hid hoX; have HLL := Lib.hid hL
    clear ho hb3 hr3 hX hU hXX hbX hoX fz hL
    generalize genAt cs n = gn at *
    go_wp2
    refine bodyPost_ret (v := .tuple #[.agg #[.slice pa L pc, .int .i64 t, .int .i64 (gn : Nat), .int .i64 st, .string bits], .bool true]) ?_ rfl ?_
    · have := HX.out
      unfold five at this
      rw [this]
      simp [results, Tryz.results295, go_sem, x0, x1, x2, x3, x4]
    · have e9 := HX.out
      unfold five at e9
      rw [e9]
      exact ⟨pa, pc, t, st, bits, by rw [HLL.out, HG.out], by rw [HLL.out]; exact HOX.out, HBX.out⟩
  · have g4 : decide ((n : Int) < (k : Int)) = false := decide_eq_false (by omega)
    have g5 : decide (n < k) = false := decide_eq_false hk
    have HG := Lib.hid (show genV cs k n = 1024 from if_neg hk)
    clear hk hn
    go_enter Tryz.func295, Tryz.ntmps295
    go_upto_region 1 with (fail)
    rw [HW1.out]
    go_wp2_with fail
    (with_reducible refine HV.out.mono ?_)
    rintro e w1 ⟨rfl, rfl⟩
    go_wp2_with fail
    (with_reducible refine HI.out.mono ?_)
    rintro e w2 ⟨rfl, hb2⟩
    have hb02 := bl_trans HB1.out hb2
    obtain ⟨c0, c1⟩ := HCL.out w2 hb02
    have HR := Lib.hid (HCOM.out w2 n hb02 HNN.out); have HB2 := Lib.hid hb2; have HB02 := Lib.hid hb02
    clear hb2 hb02 c1
    go_wp2_with fail
    (with_reducible refine HR.out.mono ?_)
    rintro e w3' ⟨v, t, rfl, ho', hb3'⟩
    obtain ⟨pa, pc, rfl, _⟩ := ho'.sl
    obtain ⟨w3, hw3⟩ : ∃ W, w3'.alloc (.cells #[.slice pa (par (grC cs) n).length pc, .int .i64 ((t : Nat) : Int)] 45) = W := ⟨_, rfl⟩
    have hb33 : Below w3'.heap.size w3' w3 := by rw [← hw3]; exact bl_alloc (Below.refl _ _) _
    have hs33 : w3.heap[w3'.heap.size]? = some (.cells #[.slice pa (par (grC cs) n).length pc, .int .i64 ((t : Nat) : Int)] 45 (0, 0)) := by rw [← hw3]; exact heap_alloc_new _ _
    have ho := ho'.below hb33
    have hb3 := bl_trans hb3' hb33
    have hz := (Array.getElem?_eq_some_iff.1 HS1.out).1
    have hz2 := HB2.out.size
    have hr3 : w3.heap[w.heap.size]? = _ := (hb3.block _ (by omega)).trans ((HB2.out.block _ hz).trans HS1.out)
    have fz : ∀ j, w3.frozen? ⟨w.heap.size, j, none⟩ = false := fun j => frozen_of_row _ _ _ _ _ hr3
    have q0 := fz 0; have q1 := fz 1; have q2 := fz 2; have q3 := fz 3; have q4 := fz 4
    have e0 : w3.cell? ⟨w.heap.size, 0, none⟩ = some (.slice none 0 0) := by rw [cell_of_row _ _ _ _ _ _ hr3]; rfl
    have e1 : w3.cell? ⟨w.heap.size, 1, none⟩ = some (.int .i64 0) := by rw [cell_of_row _ _ _ _ _ _ hr3]; rfl
    have e2 : w3.cell? ⟨w.heap.size, 2, none⟩ = some (.int .i64 0) := by rw [cell_of_row _ _ _ _ _ _ hr3]; rfl
    have e3 : w3.cell? ⟨w.heap.size, 3, none⟩ = some (.int .i64 0) := by rw [cell_of_row _ _ _ _ _ _ hr3]; rfl
    have e4 : w3.cell? ⟨w.heap.size, 4, none⟩ = some (.string ⟨#[]⟩) := by rw [cell_of_row _ _ _ _ _ _ hr3]; rfl
    obtain ⟨L, hL⟩ : ∃ L, (par (grC cs) n).length = L := ⟨_, rfl⟩
    have hX := five_row hr3 (.slice pa L pc) (.int .i64 ((t : Nat) : Int)) (.int .i64 1024) (.int .i64 0) (.string ⟨#[]⟩)
    have hU := five_upd w3 w.heap.size (.slice pa L pc) (.int .i64 ((t : Nat) : Int)) (.int .i64 1024) (.int .i64 0) (.string ⟨#[]⟩)
    obtain ⟨X, hXX⟩ : ∃ X, five w3 w.heap.size (.slice pa L pc) (.int .i64 ((t : Nat) : Int)) (.int .i64 1024) (.int .i64 0) (.string ⟨#[]⟩) = X := ⟨_, rfl⟩
    rw [hXX] at hX hU
    rw [hL] at ho hw3 hs33 ⊢
    have y0 : w3.cell? ⟨w3'.heap.size, 0, none⟩ = some (.slice pa L pc) := by rw [cell_of_row _ _ _ _ _ _ hs33]; rfl
    have y1 : w3.cell? ⟨w3'.heap.size, 1, none⟩ = some (.int .i64 ((t : Nat) : Int)) := by rw [cell_of_row _ _ _ _ _ _ hs33]; rfl
    have x0 : X.cell? ⟨w.heap.size, 0, none⟩ = some (.slice pa L pc) := by rw [cell_of_row _ _ _ _ _ _ hX]; rfl
    have x1 : X.cell? ⟨w.heap.size, 1, none⟩ = some (.int .i64 ((t : Nat) : Int)) := by rw [cell_of_row _ _ _ _ _ _ hX]; rfl
    have x2 : X.cell? ⟨w.heap.size, 2, none⟩ = some (.int .i64 1024) := by rw [cell_of_row _ _ _ _ _ _ hX]; rfl
    have x3 : X.cell? ⟨w.heap.size, 3, none⟩ = some (.int .i64 0) := by rw [cell_of_row _ _ _ _ _ _ hX]; rfl
    have x4 : X.cell? ⟨w.heap.size, 4, none⟩ = some (.string ⟨#[]⟩) := by rw [cell_of_row _ _ _ _ _ _ hX]; rfl
    have hbX : Below w.heap.size w X := (bl_trans HB02.out hb3).trans (hU.below (fun i e => by have : i = w.heap.size := e; omega) (by have := HB02.out.size; have := hb3.size; omega))
    have hoX : OwnX 3 1 natV X w.heap.size (.slice pa L pc) (par (grC cs) n) := by
      refine OwnX.mono (B := w2.heap.size) (ho.stays fun g e => ?_) (by omega)
      obtain ⟨g1, g2⟩ := ho.lt g e
      exact hU.block g g2 (fun e2 => by have e3 : g = w.heap.size := e2; omega)
    have HX := Lib.hid hXX; have HBX := Lib.hid hbX; have HOX := Lib.hid hoX; have HLL := Lib.hid hL; have HW3 := Lib.hid hw3
    clear ho ho' hb3 hb3' hb33 hs33 hr3 hX hU hXX hbX hoX fz hL hw3 hz hz2
    go_upto_region 6 with (fail)
    rw [HW3.out]
    go_wp2
    refine bodyPost_ret (v := .tuple #[.agg #[.slice pa L pc, .int .i64 ((t : Nat) : Int), .int .i64 1024, .int .i64 0, .string ⟨#[]⟩], .bool true]) ?_ rfl ?_
    · have := HX.out
      unfold five at this
      rw [this]
      simp [results, Tryz.results295, go_sem, x0, x1, x2, x3, x4]
    · have e9 := HX.out
      unfold five at e9
      rw [e9]
      exact ⟨pa, pc, _, 0, ⟨#[]⟩, by rw [HLL.out, HG.out]; rfl, by rw [HLL.out]; exact HOX.out, HBX.out⟩
set_option maxHeartbeats 4000000 in
set_option maxRecDepth 100000 in
theorem vParents (h : ViewAt w b cs k) (hn : n < cs.length) : Calls Tryz.prog 294 #[.pointer (some ⟨b, 0, none⟩), .int .i64 (n : Nat)] w fun e w' => ∃ pa pc, e = .returned (.slice pa (par (grC cs) n).length pc) ∧ OwnX 3 1 natV w' w.heap.size (.slice pa (par (grC cs) n).length pc) (par (grC cs) n) ∧ Below w.heap.size w w' := by
  have HR := Lib.hid (vRow h hn)
  clear h hn
  go_enter Tryz.func294, Tryz.ntmps294
  go_wp2_with fail
  (with_reducible refine HR.out.mono ?_)
  rintro e w1 ⟨pa, pc, t, st, bits, rfl, ho, hb⟩
  have HO := Lib.hid (fun o => ho.below (bl_alloc (Below.refl w1.heap.size w1) o)); have HB := Lib.hid (fun o => bl_alloc hb o)
  clear ho hb
  go_wp2
  go_ret
  exact ⟨pa, pc, rfl, HO.out _, HB.out _⟩
set_option maxHeartbeats 4000000 in
set_option maxRecDepth 100000 in
theorem vGen (h : ViewAt w b cs k) (hn : n < cs.length) : Calls Tryz.prog 293 #[.pointer (some ⟨b, 0, none⟩), .int .i64 (n : Nat)] w fun e w' => e = .returned (.int .i64 (genV cs k n : Nat)) ∧ Below w.heap.size w w' := by
  have HR := Lib.hid (vRow h hn)
  clear h hn
  go_enter Tryz.func293, Tryz.ntmps293
  go_wp2_with fail
  (with_reducible refine HR.out.mono ?_)
  rintro e w1 ⟨pa, pc, t, st, bits, rfl, ho, hb⟩
  have HB := Lib.hid (fun o => bl_alloc hb o)
  clear ho hb
  go_wp2
  go_ret
  exact ⟨rfl, HB.out _⟩
theorem mvCommits (n b : Nat) (W : World) : (method (n + 1) 59 (.pointer (some ⟨b, 0, none⟩)) "Commits").run Tryz.prog W = .ok (292, .pointer (some ⟨b, 0, none⟩)) W := by kernel_rfl
theorem mvParents (n b : Nat) (W : World) : (method (n + 1) 59 (.pointer (some ⟨b, 0, none⟩)) "Parents").run Tryz.prog W = .ok (294, .pointer (some ⟨b, 0, none⟩)) W := by kernel_rfl
theorem mvGen (n b : Nat) (W : World) : (method (n + 1) 59 (.pointer (some ⟨b, 0, none⟩)) "Gen").run Tryz.prog W = .ok (293, .pointer (some ⟨b, 0, none⟩)) W := by kernel_rfl
def viewV (b : Nat) : Value := .iface 59 (.pointer (some ⟨b, 0, none⟩))
end
end Go.Proofs.YtbhfbdcmamodcaaGreatDoor
namespace Go.Proofs.YtbhfbdcmamodcaaGreatDoor
open Go.RowKit Go.Maps TrMath FrMath PackMath SumMath LgMath
theorem gCountedAll (n : Nat) (h : 1 ≤ n ∧ n ≤ 1024) (w : World) : Calls Tryz.prog 109 #[.int .i64 (n : Nat)] w fun e w' => e = .returned (.int .i64 (n : Nat)) ∧ w' = w := by
  by_cases h2 : n ≤ 1023
  · exact gCounted n h.1 h2 w
  · obtain rfl : n = 1024 := by omega
    go_enter Tryz.func109, Tryz.ntmps109
    go_wp2
    go_ret
    exact ⟨rfl, rfl⟩
set_option maxHeartbeats 1000000 in
set_option maxRecDepth 100000 in
theorem gMay (a b : Nat) (ha : 1 ≤ a ∧ a ≤ 1024) (hb : 1 ≤ b ∧ b ≤ 1024) (w : World) :
    Calls Tryz.prog 50 #[.int .i64 (a : Nat), .int .i64 (b : Nat)] w fun e w' => e = .returned (.bool (mayG a b)) ∧ w' = w := by
  have HA := Lib.hid (gCountedAll a ha w)
  have HB := Lib.hid (gCountedAll b hb w)
  have HM := Lib.hid (show ∀ t, mayG a b = t → mayG a b = t from fun t h => h)
  clear ha hb
  by_cases h1 : a = 1024
  · have d1 : ((a : Int) == 1024) = true := by rw [beq_iff_eq]; omega
    have HT := Lib.hid (show mayG a b = true from by unfold mayG; simp [h1])
    clear h1
    go_enter Tryz.func50, Tryz.ntmps50
    go_wp2_with fail
    (with_reducible refine HA.out.mono ?_)
    rintro e w1 ⟨rfl, rfl⟩
    go_wp2_with fail
    (with_reducible refine HB.out.mono ?_)
    rintro e w2 ⟨rfl, rfl⟩
    go_wp2
    go_ret
    exact ⟨by rw [HT.out]; rfl, rfl⟩
  · have d1 : ((a : Int) == 1024) = false := by rw [beq_eq_false_iff_ne]; omega
    by_cases h2 : b = 1024
    · have d2 : ((b : Int) == 1024) = true := by rw [beq_iff_eq]; omega
      have HT := Lib.hid (show mayG a b = false from by unfold mayG; simp [h1, h2])
      clear h1 h2
      go_enter Tryz.func50, Tryz.ntmps50
      go_wp2_with fail
      (with_reducible refine HA.out.mono ?_)
      rintro e w1 ⟨rfl, rfl⟩
      go_wp2_with fail
      (with_reducible refine HB.out.mono ?_)
      rintro e w2 ⟨rfl, rfl⟩
      go_wp2
      go_ret
      exact ⟨by rw [HT.out]; rfl, rfl⟩
    · have d2 : ((b : Int) == 1024) = false := by rw [beq_eq_false_iff_ne]; omega
      by_cases h3 : a = 1023
      · have d3 : ((a : Int) == 1023) = true := by rw [beq_iff_eq]; omega
        have HT := Lib.hid (show mayG a b = true from by unfold mayG; simp [h1, h2, h3])
        clear h1 h2 h3
        go_enter Tryz.func50, Tryz.ntmps50
        go_wp2_with fail
        (with_reducible refine HA.out.mono ?_)
        rintro e w1 ⟨rfl, rfl⟩
        go_wp2_with fail
        (with_reducible refine HB.out.mono ?_)
        rintro e w2 ⟨rfl, rfl⟩
        go_wp2
        go_ret
        exact ⟨by rw [HT.out]; rfl, rfl⟩
      · have d3 : ((a : Int) == 1023) = false := by rw [beq_eq_false_iff_ne]; omega
        have HT := Lib.hid (show mayG a b = decide (b < a) from by unfold mayG; simp [h1, h2, h3])
        have d4 : decide ((a : Int) > (b : Int)) = decide (b < a) := by rw [Bool.eq_iff_iff, decide_eq_true_iff, decide_eq_true_iff]; omega
        have d5 : decide ((b : Int) < (a : Int)) = decide (b < a) := by rw [Bool.eq_iff_iff, decide_eq_true_iff, decide_eq_true_iff]; omega
        clear h1 h2 h3
        go_enter Tryz.func50, Tryz.ntmps50
        go_wp2_with fail
        (with_reducible refine HA.out.mono ?_)
        rintro e w1 ⟨rfl, rfl⟩
        go_wp2_with fail
        (with_reducible refine HB.out.mono ?_)
        rintro e w2 ⟨rfl, rfl⟩
        go_wp2
        go_ret
        exact ⟨by rw [HT.out]; rfl, rfl⟩
end Go.Proofs.YtbhfbdcmamodcaaGreatDoor
namespace Go.Proofs.YtbhfbdcmamodcaaGreatDoor
open Go.RowKit LgMath
def gRowV (y : Value × List Nat) : List Value := [y.1]
theorem gRowW : Wide gRowV 1 := fun _ => rfl
def GAt (w : World) (a : Option Addr) (G : Gr) : Prop := ∃ L : List (Value × List Nat), L.map Prod.snd = G ∧ CellsAt w a (L.flatMap gRowV) ∧ ∀ y ∈ L, ∃ b c, y.1 = .slice b y.2.length c ∧ CellsAt w b (y.2.flatMap natV)
section
variable {w w' : World} {a : Option Addr} {G : Gr} {c : Nat}
theorem GAt.below (h : GAt w a G) (hb : Below w.heap.size w w') : GAt w' a G := by
  obtain ⟨L, h1, h2, h3⟩ := h
  exact ⟨L, h1, h2.below hb, fun y hy => by
    obtain ⟨b, c, e1, e2⟩ := h3 y hy
    exact ⟨b, c, e1, e2.below hb⟩⟩
theorem GAt.row (h : GAt w a G) (hc : c < G.length) : ∃ b off ra rc, a = some ⟨b, off, none⟩ ∧ w.cell? ⟨b, off + c, none⟩ = some (.slice ra (par G c).length rc) ∧ CellsAt w ra ((par G c).flatMap natV) := by
  obtain ⟨L, h1, h2, h3⟩ := h
  have hl : c < L.length := by rw [← h1, List.length_map] at hc; exact hc
  obtain ⟨b, off, e1, _, e3⟩ := h2.elem gRowW hl (by decide)
  obtain ⟨ra, rc, e4, e5⟩ := h3 _ (List.getElem_mem hl)
  have hp : par G c = (L[c]).2 := by
    unfold par
    rw [← h1, List.getD_eq_getElem?_getD, List.getElem?_map, List.getElem?_eq_getElem hl]
    rfl
  have h0 := e3 0 _ rfl
  rw [Nat.mul_one, Nat.add_zero, e4] at h0
  rw [hp]
  exact ⟨b, off, ra, rc, e1, h0, e5⟩
theorem nat_at {ra : Option Addr} {l : List Nat} (h : CellsAt w ra (l.flatMap natV)) {j : Nat} (hj : j < l.length) : ∃ b off, ra = some ⟨b, off, none⟩ ∧ w.cell? ⟨b, off + j, none⟩ = some (.int .i64 (l.getD j 0 : Nat)) := by
  obtain ⟨b, off, e1, _, e3⟩ := nat_cells h hj
  refine ⟨b, off, e1, ?_⟩
  rw [e3, List.getD_eq_getElem?_getD, List.getElem?_eq_getElem hj]
  rfl
theorem one_new (w : World) (x : Nat) : CellsAt (w.alloc (.cells #[.int .i64 (x : Nat)] 3)) (some ⟨w.heap.size, 0, none⟩) ([x].flatMap natV) := fun j v hj => by
  have hj0 : j = 0 := by have := (List.getElem?_eq_some_iff.1 hj).1; simp [natV] at this; omega
  subst hj0
  refine ⟨w.heap.size, 0, rfl, by simp, ?_⟩
  rw [cell_of_row _ _ _ _ _ _ (heap_alloc_new _ _)]
  exact hj
theorem two_new (w : World) (x y : Nat) : CellsAt (w.alloc (.cells #[.int .i64 (x : Nat), .int .i64 (y : Nat)] 3)) (some ⟨w.heap.size, 0, none⟩) ([x, y].flatMap natV) := fun j v hj => by
  have hj0 : j = 0 ∨ j = 1 := by have := (List.getElem?_eq_some_iff.1 hj).1; simp [natV] at this; omega
  refine ⟨w.heap.size, 0, rfl, by simp, ?_⟩
  rw [cell_of_row _ _ _ _ _ _ (heap_alloc_new _ _), Nat.zero_add]
  rcases hj0 with rfl | rfl <;> exact hj
end
end Go.Proofs.YtbhfbdcmamodcaaGreatDoor
namespace Go.Proofs.YtbhfbdcmamodcaaGreatDoor
open Go.RowKit LgMath
section
variable {w w' : World} {b k n : Nat} {cs : List ComP}
set_option maxRecDepth 100000 in
theorem aCommits (h : ViewAt w b cs k) : Calls Tryz.prog 104 #[viewV b] w fun e w' => e = .returned (.int .i64 (cs.length : Nat)) ∧ w' = w := by
  have HV := Lib.hid (vCommits h)
  have hf := h.few.1
  obtain ⟨m, hm⟩ : ∃ m, cs.length = m := ⟨_, rfl⟩
  rw [hm] at HV hf ⊢
  have hmx : max (m : Int) 0 = (m : Int) := by omega
  have hmxf : (if (m : Int) < 0 then (0 : Int) else (m : Int)) = (m : Int) := by split <;> omega
  have hmn : min (m : Int) 65536 = (m : Int) := by omega
  have hmnf : (if (m : Int) ≤ 65536 then (m : Int) else 65536) = (m : Int) := by split <;> omega
  have hm1 := mvCommits
  clear h
  unfold viewV
  go_enter Tryz.func104, Tryz.ntmps104
  go_wp2_with fail
  (with_reducible refine HV.out.mono ?_)
  rintro e w1 ⟨rfl, rfl⟩
  go_wp2
  go_ret
  exact ⟨rfl, rfl⟩
set_option maxRecDepth 100000 in
theorem bCommits (h : ViewAt w b cs k) : Calls Tryz.prog 113 #[viewV b] w fun e w' => e = .returned (.int .i64 (cs.length : Nat)) ∧ w' = w := by
  have HV := Lib.hid (vCommits h)
  have hf := h.few.1
  obtain ⟨m, hm⟩ : ∃ m, cs.length = m := ⟨_, rfl⟩
  rw [hm] at HV hf ⊢
  have hmx : max (m : Int) 0 = (m : Int) := by omega
  have hmxf : (if (m : Int) < 0 then (0 : Int) else (m : Int)) = (m : Int) := by split <;> omega
  have hmn : min (m : Int) 65536 = (m : Int) := by omega
  have hmnf : (if (m : Int) ≤ 65536 then (m : Int) else 65536) = (m : Int) := by split <;> omega
  have hm1 := mvCommits
  clear h
  unfold viewV
  go_enter Tryz.func113, Tryz.ntmps113
  go_wp2_with fail
  (with_reducible refine HV.out.mono ?_)
  rintro e w1 ⟨rfl, rfl⟩
  go_wp2
  go_ret
  exact ⟨rfl, rfl⟩
set_option maxHeartbeats 2000000 in
set_option maxRecDepth 100000 in
theorem aAsked (h : ViewAt w b cs k) (ga : Option Addr) (gc : Nat) (G : Gr) (hl : G.length ≤ 1000) (hG : GAt w ga G) (hlt : ∀ c, ∀ y ∈ par G c, y < cs.length) (hrl : ∀ c, (par G c).length ≤ 1000) :
    Calls Tryz.prog 47 #[viewV b, .slice ga G.length gc] w fun e w' => e = .returned (.int .i64 0) ∧ w' = w := by
  have HC := Lib.hid (aCommits h)
  have HG := Lib.hid hG; have HLT := Lib.hid hlt; have HRL := Lib.hid hrl
  have hf := h.few.1
  obtain ⟨N, hN⟩ : ∃ N, cs.length = N := ⟨_, rfl⟩
  rw [hN] at HC hf HLT
  clear h hG hlt hrl
  unfold viewV at HC ⊢
  go_enter Tryz.func47, Tryz.ntmps47
  go_wp2_with fail
  (with_reducible refine HC.out.mono ?_)
  rintro e w1 ⟨rfl, rfl⟩
  go_wp2_with fail
  go_loopw [16] (fun iv wr => ∃ i : Nat, i ≤ G.length ∧ iv = .int .i64 i ∧ w1 = wr) (fun iv _ => G.length - (intOf iv).toNat)
  case atStart => exact ⟨0, Nat.zero_le _, rfl, rfl⟩
  case round =>
    obtain ⟨i, hi, rfl, rfl⟩ := hrel
    by_cases hil : i < G.length
    · obtain ⟨gb, go, ra, rc, rfl, c1, hra⟩ := HG.out.row hil
      have hrl := HRL.out i
      have HR := Lib.hid hra; have HL := Lib.hid (HLT.out i)
      generalize par G i = l at *
      clear hra
      go_wp2_with fail
      go_loopw [22] (fun jv wr => ∃ j : Nat, j ≤ l.length ∧ jv = .int .i64 j ∧ w1 = wr) (fun jv _ => l.length - (intOf jv).toNat)
      case atStart => exact ⟨0, Nat.zero_le _, rfl, rfl⟩
      case round =>
        obtain ⟨j, hj, rfl, rfl⟩ := hrel
        by_cases hjl : j < l.length
        · obtain ⟨rb, ro, rfl, c2⟩ := nat_at HR.out hjl
          have hy := HL.out (l.getD j 0) (by rw [List.getD_eq_getElem?_getD, List.getElem?_eq_getElem hjl]; exact List.getElem_mem hjl)
          generalize l.getD j 0 = y at *
          have d1 : decide ((y : Int) < 0) = false := by simp
          have d2 : decide ((y : Int) ≥ (N : Int)) = false := by simp; omega
          have d3 : decide (N ≤ y) = false := by simp; omega
          go_wp2
          go_roundw
          case rel => exact ⟨j + 1, by omega, by go_num, by first | rfl | trivial⟩
          case measure => simp [intOf]; omega
        · obtain rfl : j = l.length := by omega
          go_wp2
          go_roundw
          case rel => exact ⟨i + 1, by omega, by go_num, by first | rfl | trivial⟩
          case measure => simp [intOf]; omega
    · obtain rfl : i = G.length := by omega
      go_wp2
      go_ret
      exact ⟨rfl, rfl⟩
set_option maxHeartbeats 2000000 in
set_option maxRecDepth 100000 in
theorem bAsked (h : ViewAt w b cs k) (ga : Option Addr) (gc : Nat) (G : Gr) (hl : G.length ≤ 1000) (hG : GAt w ga G) (hlt : ∀ c, ∀ y ∈ par G c, y < cs.length) (hrl : ∀ c, (par G c).length ≤ 1000) :
    Calls Tryz.prog 112 #[viewV b, .slice ga G.length gc] w fun e w' => e = .returned (.int .i64 0) ∧ w' = w := by
  have HC := Lib.hid (bCommits h)
  have HG := Lib.hid hG; have HLT := Lib.hid hlt; have HRL := Lib.hid hrl
  have hf := h.few.1
  obtain ⟨N, hN⟩ : ∃ N, cs.length = N := ⟨_, rfl⟩
  rw [hN] at HC hf HLT
  clear h hG hlt hrl
  unfold viewV at HC ⊢
  go_enter Tryz.func112, Tryz.ntmps112
  go_wp2_with fail
  go_loopw [13] (fun iv wr => ∃ i : Nat, i ≤ G.length ∧ iv = .int .i64 i ∧ w = wr) (fun iv _ => G.length - (intOf iv).toNat)
  case atStart => exact ⟨0, Nat.zero_le _, rfl, rfl⟩
  case round =>
    obtain ⟨i, hi, rfl, rfl⟩ := hrel
    by_cases hil : i < G.length
    · obtain ⟨gb, go, ra, rc, rfl, c1, hra⟩ := HG.out.row hil
      have hrl := HRL.out i
      have HR := Lib.hid hra; have HL := Lib.hid (HLT.out i)
      generalize par G i = l at *
      clear hra
      go_wp2_with fail
      go_loopw [19] (fun jv wr => ∃ j : Nat, j ≤ l.length ∧ jv = .int .i64 j ∧ w = wr) (fun jv _ => l.length - (intOf jv).toNat)
      case atStart => exact ⟨0, Nat.zero_le _, rfl, rfl⟩
      case round =>
        obtain ⟨j, hj, rfl, rfl⟩ := hrel
        by_cases hjl : j < l.length
        · obtain ⟨rb, ro, rfl, c2⟩ := nat_at HR.out hjl
          have hy := HL.out (l.getD j 0) (by rw [List.getD_eq_getElem?_getD, List.getElem?_eq_getElem hjl]; exact List.getElem_mem hjl)
          generalize l.getD j 0 = y at *
          have d1 : decide ((y : Int) < 0) = false := by simp
          have d2 : decide ((y : Int) ≥ (N : Int)) = false := by simp; omega
          have d3 : decide (N ≤ y) = false := by simp; omega
          go_wp2_with fail
          (with_reducible refine HC.out.mono ?_)
          rintro e w1 ⟨rfl, rfl⟩
          go_wp2
          go_roundw
          case rel => exact ⟨j + 1, by omega, by go_num, by first | rfl | trivial⟩
          case measure => simp [intOf]; omega
        · obtain rfl : j = l.length := by omega
          go_wp2
          go_roundw
          case rel => exact ⟨i + 1, by omega, by go_num, by first | rfl | trivial⟩
          case measure => simp [intOf]; omega
    · obtain rfl : i = G.length := by omega
      go_wp2
      go_ret
      exact ⟨rfl, rfl⟩
end
end Go.Proofs.YtbhfbdcmamodcaaGreatDoor
namespace Go.Proofs.YtbhfbdcmamodcaaGreatDoor
open Go.RowKit LgMath
structure WalkS (w : World) (B b o s g q N : Nat) (v : Value) (seen : Nat → Bool) (l : List (Nat × Nat)) : Prop where
  box : w.heap[o]? = some (.cells #[viewV b, .pointer (some ⟨s, 0, none⟩), .pointer (some ⟨q, 0, none⟩)] 124 (0, 0))
  marks : MarksAt w s g N seen
  queue : qwAt w q v l
  own : (o :: s :: g :: q :: v.ownBlock.toList).Nodup
  low : ∀ j ∈ o :: s :: g :: q :: v.ownBlock.toList, B ≤ j
section
variable {w w' : World} {B b o s g q N k : Nat} {v : Value} {seen : Nat → Bool} {l : List (Nat × Nat)} {cs : List ComP}
theorem WalkS.lt (h : WalkS w B b o s g q N v seen l) : ∀ j ∈ o :: s :: g :: q :: v.ownBlock.toList, j < w.heap.size := fun j hj => by
  simp only [List.mem_cons, Option.mem_toList] at hj
  rcases hj with rfl | rfl | rfl | rfl | e
  · exact (Array.getElem?_eq_some_iff.1 h.box).1
  · exact h.marks.lt.1
  · exact h.marks.lt.2
  · exact h.queue.lt.1
  · exact h.queue.lt.2 j e
theorem WalkS.below (h : WalkS w B b o s g q N v seen l) (hb : Below w.heap.size w w') : WalkS w' B b o s g q N v seen l :=
  ⟨(hb.block _ (h.lt o (by simp))).trans h.box, h.marks.below hb, h.queue.below hb, h.own, h.low⟩
theorem WalkS.cells (h : WalkS w B b o s g q N v seen l) : w.cell? ⟨o, 0, none⟩ = some (viewV b) ∧ w.cell? ⟨o, 1, none⟩ = some (.pointer (some ⟨s, 0, none⟩)) ∧ w.cell? ⟨o, 2, none⟩ = some (.pointer (some ⟨q, 0, none⟩)) :=
  ⟨by rw [cell_of_row _ _ _ _ _ _ h.box]; rfl, by rw [cell_of_row _ _ _ _ _ _ h.box]; rfl, by rw [cell_of_row _ _ _ _ _ _ h.box]; rfl⟩
theorem WalkS.ne (h : WalkS w B b o s g q N v seen l) : o ≠ s ∧ o ≠ g ∧ o ≠ q ∧ s ≠ g ∧ s ≠ q ∧ g ≠ q ∧ v.ownBlock ≠ some o ∧ v.ownBlock ≠ some s ∧ v.ownBlock ≠ some g ∧ v.ownBlock ≠ some q := by
  have := h.own
  simp only [List.nodup_cons, List.mem_cons, Option.mem_toList, not_or] at this
  obtain ⟨⟨a1, a2, a3, a4⟩, ⟨b1, b2, b3⟩, ⟨c1, c2⟩, d1, _⟩ := this
  exact ⟨a1, a2, a3, b1, b2, c1, a4, b3, c2, d1⟩
theorem WalkS.mark (h : WalkS w B b o s g q N v seen l) {f : Nat → Bool} (hm : MarksAt w' s g N f) (hu : Upd (· = g) w w') : WalkS w' B b o s g q N v f l := by
  obtain ⟨n1, n2, n3, n4, n5, n6, n7, n8, n9, n10⟩ := h.ne
  exact ⟨(hu.block _ (h.lt o (by simp)) n2).trans h.box, hm, h.queue.upd hu (fun e => n6 e.symm) (fun j e e2 => n9 (by rw [e, e2])), h.own, h.low⟩
theorem WalkS.turn (h : WalkS w B b o s g q N v seen l) {v' : Value} {l' : List (Nat × Nat)} (hq : qwAt w' q v' l') (hu : Upd (fun j => j = q ∨ v.ownBlock = some j) w w') (hv : ∀ j, v'.ownBlock = some j → v.ownBlock = some j ∨ w.heap.size ≤ j) : WalkS w' B b o s g q N v' seen l' := by
  obtain ⟨n1, n2, n3, n4, n5, n6, n7, n8, n9, n10⟩ := h.ne
  have hl := h.lt
  have lo := hl o (by simp); have ls := hl s (by simp); have lg := hl g (by simp); have lq := hl q (by simp)
  have hB := h.low o (by simp)
  have key : ∀ x, x < w.heap.size → v.ownBlock ≠ some x → v'.ownBlock ≠ some x := fun x h1 h2 e => by
    rcases hv x e with e2 | e2
    · exact h2 e2
    · omega
  refine ⟨(hu.block _ lo (fun e => e.elim n3 n7)).trans h.box, h.marks.upd hu (fun e => e.elim n5 n8) (fun e => e.elim n6 n9), hq, ?_, fun j hj => ?_⟩
  · simp only [List.nodup_cons, List.mem_cons, Option.mem_toList, not_or]
    exact ⟨⟨n1, n2, n3, key o lo n7⟩, ⟨n4, n5, key s ls n8⟩, ⟨n6, key g lg n9⟩, key q lq n10, by cases v'.ownBlock <;> simp⟩
  · simp only [List.mem_cons, Option.mem_toList] at hj
    rcases hj with rfl | rfl | rfl | rfl | e
    · exact hB
    · exact h.low _ (by simp)
    · exact h.low _ (by simp)
    · exact h.low _ (by simp)
    · rcases hv j e with e2 | e2
      · exact h.low j (by simp [e2])
      · omega
theorem WalkS.bel (h : WalkS w B b o s g q N v seen l) (hu : Upd (fun j => j ∈ o :: s :: g :: q :: v.ownBlock.toList) w w') : Below B w w' :=
  hu.below h.low (by have := h.lt o (by simp); have := h.low o (by simp); omega)
end
def AddSaid (w : World) (B b o s g q N : Nat) (seen : Nat → Bool) (Q : List Nat) (ps : List Nat) (w' : World) : Prop :=
  ∃ v' l', WalkS w' B b o s g q N v' (addS (seen, Q) ps).1 l' ∧ (l'.map Prod.fst).Perm (addS (seen, Q) ps).2 ∧ Below B w w'
set_option maxHeartbeats 2000000 in
set_option maxRecDepth 100000 in
theorem aAdd {w : World} {B b o s g q N : Nat} {v : Value} {seen : Nat → Bool} {l : List (Nat × Nat)} {Q : List Nat} (h : WalkS w B b o s g q N v seen l) (hQ : (l.map Prod.fst).Perm Q) (hl : l.length ≤ 50000) (ps : List Nat) (ra : Option Addr) (rc : Nat) (hps : CellsAt w ra (ps.flatMap natV)) (hlow : ∀ b' off, ra = some ⟨b', off, none⟩ → b' ∉ o :: s :: g :: q :: v.ownBlock.toList) (hlt : ∀ p ∈ ps, p < N) (hpl : ps.length ≤ 1000) :
    Calls Tryz.prog 51 #[.pointer (some ⟨o, 0, none⟩), .slice ra ps.length rc] w fun e w' => e = .returned (.tuple #[]) ∧ AddSaid w B b o s g q N seen Q ps w' := by
  have H0 := Lib.hid h; have HQ0 := Lib.hid hQ; have HP := Lib.hid hps; have HLT := Lib.hid hlt; have HLW := Lib.hid hlow
  have hQl : Q.length ≤ 50000 := by rw [← hQ.length_eq, List.length_map]; exact hl
  have HB0 := Lib.hid (show B ≤ w.heap.size from by have := h.lt o (by simp); have := h.low o (by simp); omega)
  clear h hQ hps hlt hlow
  go_enter Tryz.func51, Tryz.ntmps51
  go_wp2_with fail
  go_loopw [8] (fun iv wr => ∃ (i : Nat) (v' : Value) (l' : List (Nat × Nat)), i ≤ ps.length ∧ iv = .int .i64 i ∧ WalkS wr B b o s g q N v' (addS (seen, Q) (ps.take i)).1 l' ∧ (l'.map Prod.fst).Perm (addS (seen, Q) (ps.take i)).2 ∧ Upd (fun j => j ∈ o :: s :: g :: q :: v.ownBlock.toList) w wr ∧ (∀ j, v'.ownBlock = some j → v.ownBlock = some j ∨ w.heap.size ≤ j)) (fun iv _ => ps.length - (intOf iv).toNat)
  case atStart => exact ⟨0, v, l, Nat.zero_le _, rfl, H0.out, HQ0.out, Upd.refl _ _, fun j e => .inl e⟩
  case round =>
    obtain ⟨i, v', l', hi, rfl, hW, hpm, hud, hvs⟩ := hrel
    obtain ⟨wq, hwq⟩ : ∃ wq : World, wq = wr := ⟨_, rfl⟩
    subst hwq
    by_cases hlt : i < ps.length
    · have hcells := HP.out.stays (x := wq) (fun b' off e _ => hud.block b' (by
        obtain ⟨b2, off2, e1, e2, _⟩ := nat_cells HP.out hlt
        rw [e] at e1
        cases e1
        exact e2) (HLW.out b' off e)) hud.size
      obtain ⟨rb, ro, rfl, c0⟩ := nat_at hcells hlt
      have hpN := HLT.out (ps.getD i 0) (by rw [List.getD_eq_getElem?_getD, List.getElem?_eq_getElem hlt]; exact List.getElem_mem hlt)
      have hst := addS_take (seen, Q) ps hlt
      have hlen := addS_len (ps.take i) (seen, Q)
      rw [List.length_take] at hlen
      have hl2 : l'.length ≤ 100000 := by have := hpm.length_eq; rw [List.length_map] at this; simp only at hlen; omega
      have HST := Lib.hid hst
      obtain ⟨S, hS⟩ : ∃ S, addS (seen, Q) (ps.take i) = S := ⟨_, rfl⟩
      rw [hS] at HST hW hpm
      generalize ps.getD i 0 = p at *
      obtain ⟨k0, k1, k2⟩ := hW.cells
      have HM := Lib.hid (mPut hW.marks p hpN)
      have HW := Lib.hid hW; have HPM := Lib.hid hpm; have HUD := Lib.hid hud; have HVS := Lib.hid hvs
      clear hcells hst hlen hS hW hpm hud hvs
      go_wp2_with fail
      (with_reducible refine HM.out.mono ?_)
      rintro e w2 ⟨rfl, hm2, hu2⟩
      have hW2 := HW.out.mark hm2 hu2
      have hz2 := hu2.size
      have hU2 : Upd (fun j => j ∈ o :: s :: g :: q :: v.ownBlock.toList) w w2 := HUD.out.trans hu2 (fun j e => .inl (by subst e; simp))
      obtain ⟨_, _, k3⟩ := hW2.cells
      obtain ⟨t, ht⟩ : ∃ t, S.1 p = t := ⟨_, rfl⟩
      have HT := Lib.hid ht
      rw [ht]
      clear hm2 hu2 k0 k1 k2 ht c0
      cases t with
      | true =>
        have HR := Lib.hid (show WalkS w2 B b o s g q N v' (addS (seen, Q) (ps.take (i + 1))).1 l' ∧ (l'.map Prod.fst).Perm (addS (seen, Q) (ps.take (i + 1))).2 from by
          rw [HST.out]
          unfold addStep
          rw [HT.out]
          exact ⟨hW2, HPM.out⟩)
        have HU2 := Lib.hid hU2
        clear hW2 hU2 k3
        go_wp2
        go_roundw
        case rel => exact ⟨i + 1, v', l', by omega, by go_num, HR.out.1, HR.out.2, HU2.out, HVS.out⟩
        case measure => simp [intOf]; omega
      | false =>
        have HPu := Lib.hid (qwPush hW2.queue p hl2)
        have HW2 := Lib.hid hW2; have HU2 := Lib.hid hU2
        clear hW2 hU2
        go_wp2_with fail
        (with_reducible refine HPu.out.mono ?_)
        rintro e w3 ⟨rfl, v3, l3, hq3, hp3, hu3, hv3⟩
        have hw2z := HU2.out.size
        have HR := Lib.hid (show WalkS w3 B b o s g q N v3 (addS (seen, Q) (ps.take (i + 1))).1 l3 ∧ (l3.map Prod.fst).Perm (addS (seen, Q) (ps.take (i + 1))).2 from by
          rw [HST.out]
          unfold addStep
          rw [HT.out]
          refine ⟨HW2.out.turn hq3 hu3 hv3, hp3.trans ?_⟩
          exact (HPM.out.cons p).trans (List.perm_append_singleton p _).symm)
        have HU3 := Lib.hid (HU2.out.trans hu3 (fun j e => by
          rcases e with rfl | e
          · exact .inl (by simp)
          · rcases HVS.out j e with e2 | e2
            · exact .inl (by simp [e2])
            · exact .inr e2))
        have HV3 := Lib.hid (show ∀ j, v3.ownBlock = some j → v.ownBlock = some j ∨ w.heap.size ≤ j from fun j e => by
          rcases hv3 j e with e2 | e2
          · exact HVS.out j e2
          · exact .inr (by omega))
        clear hq3 hp3 hu3 hv3 k3
        go_wp2
        go_roundw
        case rel => exact ⟨i + 1, v3, l3, by omega, by go_num, HR.out.1, HR.out.2, HU3.out, HV3.out⟩
        case measure => simp [intOf]; omega
    · obtain rfl : i = ps.length := by omega
      have HE := Lib.hid (show AddSaid w B b o s g q N seen Q ps wq from ⟨v', l', by rw [List.take_of_length_le (Nat.le_refl _)] at hW; exact hW, by rw [List.take_of_length_le (Nat.le_refl _)] at hpm; exact hpm, hud.below H0.out.low HB0.out⟩)
      clear hW hpm hud hvs
      go_wp2
      first | (go_end0; exact ⟨rfl, HE.out⟩) | exact bodyPost_end (v := .tuple #[]) (by simp [results, Tryz.results51, go_sem]) rfl ⟨rfl, HE.out⟩
end Go.Proofs.YtbhfbdcmamodcaaGreatDoor
namespace Go.Proofs.YtbhfbdcmamodcaaGreatDoor
open Go.RowKit LgMath
def cntF (N : Nat) (f : Nat → Bool) : Nat := (List.range N).countP fun i => !f i
theorem cnt_upd {f : Nat → Bool} {p : Nat} : ∀ N, (p < N → f p = false → cntF N (upd f p true) + 1 = cntF N f) ∧ (N ≤ p → cntF N (upd f p true) = cntF N f)
  | 0 => ⟨fun h => by omega, fun _ => rfl⟩
  | N + 1 => by
    obtain ⟨i1, i2⟩ := cnt_upd (f := f) (p := p) N
    have e : ∀ g : Nat → Bool, cntF (N + 1) g = cntF N g + (if g N then 0 else 1) := fun g => by
      unfold cntF
      rw [List.range_succ, List.countP_append]
      cases h : g N <;> simp [h]
    rw [e, e]
    refine ⟨fun h h0 => ?_, fun h => ?_⟩
    · by_cases hp : p = N
      · subst hp
        rw [i2 (Nat.le_refl _), upd_same, h0]
        simp
      · have := i1 (by omega) h0
        rw [upd_other _ _ (fun e => hp e.symm)]
        omega
    · rw [i2 (by omega), upd_other _ _ (by omega)]
theorem cnt_adds (N : Nat) (ps : List Nat) : ∀ S : (Nat → Bool) × List Nat, (∀ p ∈ ps, p < N) → 2 * cntF N (addS S ps).1 + (addS S ps).2.length ≤ 2 * cntF N S.1 + S.2.length := by
  induction ps with
  | nil => intro S _; exact Nat.le_refl _
  | cons p r ih =>
    intro S h
    have h1 := ih (addStep S p) (fun q hq => h q (by simp [hq]))
    show 2 * cntF N (addS (addStep S p) r).1 + (addS (addStep S p) r).2.length ≤ _
    have h2 : 2 * cntF N (addStep S p).1 + (addStep S p).2.length ≤ 2 * cntF N S.1 + S.2.length := by
      unfold addStep
      by_cases e : S.1 p = true
      · rw [if_pos e]
        have e2 : upd S.1 p true = S.1 := by
          funext x
          by_cases e3 : x = p
          · rw [e3, upd_same, e]
          · rw [upd_other _ _ e3]
        show 2 * cntF N (upd S.1 p true) + S.2.length ≤ _
        rw [e2]
        exact Nat.le_refl _
      · rw [if_neg e]
        have := (cnt_upd (f := S.1) N).1 (h p (by simp)) (by simpa using e)
        show 2 * cntF N (upd S.1 p true) + (S.2 ++ [p]).length ≤ _
        rw [List.length_append, List.length_singleton]
        omega
    omega
def cntW (w : World) (g N : Nat) : Nat := cntF N fun i => match w.cell? ⟨g, i / 64, none⟩ with
  | some (.int _ x) => x.toNat.testBit (i % 64)
  | _ => false
theorem MarksAt.cnt {w : World} {s g N : Nat} {f : Nat → Bool} (h : MarksAt w s g N f) : cntW w g N = cntF N f := by
  unfold cntW cntF
  apply List.countP_congr
  intro i hi
  have hi' : i < N := List.mem_range.1 hi
  obtain ⟨⟨ws, a, b, c⟩, _, _⟩ := h
  have hw := word_at b (c.word hi')
  dsimp only
  rw [hw]
  have hb := c.bit i
  unfold bitW at hb
  simp only [Int.toNat_natCast]
  rw [hb]
def lenW (w : World) (q : Nat) : Nat := match w.cell? ⟨q, 0, none⟩ with
  | some (.slice _ n _) => n
  | _ => 0
theorem qwAt.lenW {w : World} {q : Nat} {v : Value} {l : List (Nat × Nat)} (h : qwAt w q v l) : lenW w q = l.length := by
  obtain ⟨⟨k, hk, a⟩, b, _⟩ := h
  obtain ⟨sa, sc, rfl, _⟩ := b.sl
  unfold Go.Proofs.YtbhfbdcmamodcaaGreatDoor.lenW
  rw [cell_of_row _ _ _ _ _ _ a]
  rfl
def okN (v : Value) : Nat := match v with
  | .bool true => 1
  | _ => 0
theorem nodup_few {Q : List Nat} {N : Nat} (hd : Q.Nodup) (h : ∀ y ∈ Q, y < N) : Q.length ≤ N := by
  have key : ∀ (A B : List Nat), A.Nodup → (∀ y ∈ A, y ∈ B) → A.length ≤ B.length := fun A => by
    induction A with
    | nil => intro B _ _; exact Nat.zero_le _
    | cons a r ih =>
      intro B hA hs
      have h1 := List.nodup_cons.1 hA
      have h2 := ih (B.erase a) h1.2 fun y hy => (List.mem_erase_of_ne (by rintro rfl; exact h1.1 hy)).2 (hs y (by simp [hy]))
      rw [List.length_erase_of_mem (hs a (by simp))] at h2
      have h3 := List.length_pos_of_mem (hs a (by simp))
      rw [List.length_cons]
      omega
  have := key Q (List.range N) hd fun y hy => List.mem_range.2 (h y hy)
  rwa [List.length_range] at this
end Go.Proofs.YtbhfbdcmamodcaaGreatDoor
