/- The whole: a row's parents are read; The whole: what stands while a graph file is read; The whole: what stands while a row is read; The whole: the chunks of a graph file are read; The whole: a graph read from its file; The whole: many parents are read; The whole: parents are read, however many. -/
import Derived.Test.YtbhfbdcmamodcaaGreatDoorR42
import Derived.Laws.BitsAllLaws
import Derived.Deep.Cut
import Derived.Defers
import Derived.Recover
set_option linter.unusedVariables false
set_option linter.unusedSimpArgs false
namespace Go.Proofs.YtbhfbdcmamodcaaGreatDoor
open Go.RowKit PackMath SumMath
theorem noMark (x : Nat) (h : x < 2147483648) : bits .andNot .u32 (x : Int) 2147483648 = (x : Int) := by
  have := u32_andNot_nat x 2147483648 (by omega) (by decide)
  rw [show (4294967295 - 2147483648 : Nat) = 2 ^ 31 - 1 from rfl, Nat.and_two_pow_sub_one_eq_mod, Nat.mod_eq_of_lt (by omega)] at this
  exact this
theorem noMark2 (x : Nat) (h : x < 2147483648) : bits .andNot .u32 ((x + 2147483648 : Nat) : Int) 2147483648 = (x : Int) := by
  have := u32_andNot_nat (x + 2147483648) 2147483648 (by omega) (by decide)
  rw [show (4294967295 - 2147483648 : Nat) = 2 ^ 31 - 1 from rfl, Nat.and_two_pow_sub_one_eq_mod, show (x + 2147483648) % 2 ^ 31 = x from by omega] at this
  exact this
theorem mU32 (v : Int) (w : World) : Calls Tryz.prog 225 #[.int .u32 v, .int .i64 0] w fun e w' => e = .returned (.int .u32 v) ∧ w = w' := by
  go_enter Tryz.func225, Tryz.ntmps225
  go_wp2
  go_ret
  exact ⟨rfl, rfl⟩
theorem mU16 (v : Int) (w : World) : Calls Tryz.prog 227 #[.int .u16 v, .int .i64 0] w fun e w' => e = .returned (.int .u16 v) ∧ w = w' := by
  go_enter Tryz.func227, Tryz.ntmps227
  go_wp2
  go_ret
  exact ⟨rfl, rfl⟩
theorem mU8 (v : Int) (w : World) : Calls Tryz.prog 226 #[.int .u8 v, .int .i64 0] w fun e w' => e = .returned (.int .u8 v) ∧ w = w' := by
  go_enter Tryz.func226, Tryz.ntmps226
  go_wp2
  go_ret
  exact ⟨rfl, rfl⟩
theorem mStr (v : ByteArray) (w : World) : Calls Tryz.prog 229 #[.string v, .int .i64 0] w fun e w' => e = .returned (.string v) ∧ w = w' := by
  go_enter Tryz.func229, Tryz.ntmps229
  go_wp2
  go_ret
  exact ⟨rfl, rfl⟩
def ParSaid (ps : List Nat) (w : World) (e : Ending) (w' : World) : Prop := ∃ v, e = .returned v ∧ OwnX 3 1 natV w' w.heap.size v ps ∧ Below w.heap.size w w'
set_option maxHeartbeats 2000000 in
set_option maxRecDepth 100000 in
theorem gPar0 (s : ByteArray) (w : World) : Calls Tryz.prog 228 #[.int .u32 4294967295, .int .u32 4294967295, .string s] w (ParSaid [] w) := by
  go_enter Tryz.func228, Tryz.ntmps228
  go_wp2
  go_ret
  exact ⟨_, rfl, OwnX.nil _ _ _ _ _, Below.refl _ _⟩
theorem one_nat (x : Int) : ∀ u ∈ [Value.int .i64 x], u.oneCell' = true := by intro u hu; simp at hu; subst hu; rfl
set_option maxHeartbeats 2000000 in
set_option maxRecDepth 100000 in
theorem gPar1 (x0 : Nat) (h0 : x0 < 1000000) (s : ByteArray) (w : World) : Calls Tryz.prog 228 #[.int .u32 x0, .int .u32 4294967295, .string s] w (ParSaid [x0] w) := by
  obtain ⟨j0, hj, hy0, hy1, hy2⟩ := info_parts infoInt'
  have hd : ((x0 : Int) == 4294967295) = false := by simp; omega
  go_enter Tryz.func228, Tryz.ntmps228
  go_wp2_with (at_builtin; refine wpList_append_lies _ rfl (.tmp 13) (.tmp 16) 42 rfl w.heap.size 3 j0 (.int .i64 0) 1 8 Tryz.underlying42 hj hy0 hy1 hy2 rfl (by decide) (.slice none 0 0) 0 [] rfl (World.ownsRow_nil _ _ _ _) _ 1 1 [.int .i64 x0] rfl rfl (cells_new w [.int .i64 x0] _ rfl) (one_nat _) (by decide) (by decide) (by decide) (by simp) _ rfl ?_; intro g cp w1 hown hg hat hlt; have HO := Lib.hid hown; have HB := Lib.hid (bel_grown (Below.refl _ w) (Nat.le_refl _) (bl_alloc (Below.refl _ w) _) hg (fun i hi => by simp [Value.ownBlock] at hi)); clear hown hg hat)
  go_ret
  exact ⟨_, rfl, HO.out, HB.out⟩
set_option maxHeartbeats 2000000 in
set_option maxRecDepth 100000 in
theorem gPar2 (x0 x1 : Nat) (h0 : x0 < 1000000) (h1 : x1 < 1000000) (s : ByteArray) (w : World) : Calls Tryz.prog 228 #[.int .u32 x0, .int .u32 x1, .string s] w (ParSaid [x0, x1] w) := by
  obtain ⟨j0, hj, hy0, hy1, hy2⟩ := info_parts infoInt'
  have hd : ((x0 : Int) == 4294967295) = false := by simp; omega
  have hd1 : ((x1 : Int) == 4294967295) = false := by simp; omega
  go_enter Tryz.func228, Tryz.ntmps228
  go_upto_region 6 with (at_builtin; refine wpList_append_lies _ rfl (.tmp 13) (.tmp 16) 42 rfl w.heap.size 3 j0 (.int .i64 0) 1 8 Tryz.underlying42 hj hy0 hy1 hy2 rfl (by decide) (.slice none 0 0) 0 [] rfl (World.ownsRow_nil _ _ _ _) _ 1 1 [.int .i64 x0] rfl rfl (cells_new w [.int .i64 x0] _ rfl) (one_nat _) (by decide) (by decide) (by decide) (by simp) _ rfl ?_; intro g cp w1 hown hg hat hlt; have HO := Lib.hid hown; have HB := Lib.hid (bel_grown (Below.refl _ w) (Nat.le_refl _) (bl_alloc (Below.refl _ w) _) hg (fun i hi => by simp [Value.ownBlock] at hi)); clear hown hg hat)
  have hd2 : decide ((x1 : Int) < 2147483648) = true := by simp; omega
  clear hd hd1 h0
  go_wp2_with (at_builtin; refine wpList_append_lies _ rfl (.tmp 23) (.tmp 26) 42 rfl w.heap.size 3 j0 (.int .i64 0) 1 8 Tryz.underlying42 hj hy0 hy1 hy2 rfl (by decide) _ 1 [.int .i64 x0] rfl (HO.out.alloc _) _ 1 1 [.int .i64 x1] rfl rfl (cells_new w1 [.int .i64 x1] _ rfl) (one_nat _) (by decide) (by decide) (by decide) (by have := HB.out.size; simp; omega) _ rfl ?_; intro g2 cp2 w2 hown hg hat hlt2; have HO2 := Lib.hid hown; have HB2 := Lib.hid (bel_grown HB.out HB.out.size (bl_alloc (Below.refl _ w1) _) hg (fun i hi => (HO.out.lt i hi).1)); clear hown hg hat)
  go_ret
  exact ⟨_, rfl, HO2.out, HB2.out⟩
end Go.Proofs.YtbhfbdcmamodcaaGreatDoor
namespace Go.Proofs.YtbhfbdcmamodcaaGreatDoor
open Go.RowKit PackMath SumMath
theorem bulk_mem : ∀ {l : List Chunk} {x : Chunk}, x ∈ l → x.2.size ≤ bulkK l
  | y :: r, x, h => by
    rcases List.mem_cons.1 h with rfl | h
    · simp [bulkK]
    · have := bulk_mem h
      simp only [bulkK, List.map_cons, List.sum_cons] at this ⊢
      omega
set_option maxRecDepth 100000 in
theorem gData (g : GraphP) (hg : GoodGraph g) (n : Nat) (hn : n < 5) (d : Nat) (hd : d = n + 1) (x : Int) (hx : x = d) (a : Option Addr) (c : Nat) (w : World) (h : CellsAt w a ((chunksG g).flatMap chunkV)) :
    Calls Tryz.prog 223 #[.slice a 5 c, .int .u32 x] w fun e w' => ∃ p, e = .returned (.pointer (some ⟨p, 0, none⟩)) ∧ w.heap.size ≤ p ∧ RP w' p ((chunksG g)[n]'hn).2.data.toList ∧ Below w.heap.size w w' := by
  subst hx
  have HF := Lib.hid (show Calls Tryz.prog 224 #[.slice a 5 c, .int .u32 (d : Nat)] w (fun e w' => e = .returned (.tuple #[.string ((chunksG g)[n]'hn).2, .bool true]) ∧ Below w.heap.size w w') from
    kFind (chunksG g) (by show 5 ≤ 1000; decide) n hn d (by rw [chunksG_id g n hn, hd]) (fun j hj hjn => by rw [chunksG_id, hd]; omega) a c w h)
  have hsz := Nat.le_trans (bulk_mem (List.getElem_mem (l := chunksG g) hn)) hg.small
  obtain ⟨s, hs⟩ : ∃ s, ((chunksG g)[n]'hn).2 = s := ⟨_, rfl⟩
  rw [hs] at HF hsz
  rw [hs]
  have HN := Lib.hid (fun W => rpNew W s (by omega))
  clear hs h hd
  go_enter Tryz.func223, Tryz.ntmps223
  go_wp2_with fail
  (with_reducible refine HF.out.mono ?_)
  rintro e w1 ⟨rfl, hb⟩
  have HB1 := Lib.hid hb
  clear hb
  go_wp2_with fail
  (with_reducible refine (HN.out w1).mono ?_)
  rintro e w2 ⟨rfl, hb, hr⟩
  have HB2 := Lib.hid (bl_trans HB1.out hb); have HR := Lib.hid hr
  clear hb hr
  go_wp2
  go_ret
  exact ⟨_, rfl, HB1.out.size, HR.out, HB2.out⟩
theorem gEdges (g : GraphP) (a : Option Addr) (c : Nat) (w : World) (h : CellsAt w a ((chunksG g).flatMap chunkV)) :
    Calls Tryz.prog 224 #[.slice a 5 c, .int .u32 3] w fun e w' => e = .returned (.tuple #[.string ⟨(edgesB g.rows).toArray⟩, .bool true]) ∧ Below w.heap.size w w' :=
  kFind (chunksG g) (by show 5 ≤ 1000; decide) 2 (by show 2 < 5; decide) 3 rfl (fun j hj hjn => by rw [chunksG_id]; omega) a c w h
def RowsOwn (w : World) (B T : Nat) (v : Value) (rows : List RowP) : Prop := ∃ L : List (Value × RowP), L.map Prod.snd = rows ∧ OwnX 188 5 rowC w B v L ∧ (∀ g, v.ownBlock = some g → g < T) ∧
  ∀ x ∈ L, ∃ a c, x.1 = .slice a x.2.parents.length c ∧ CellsAt w a (x.2.parents.flatMap natV) ∧ x.2.parents.length ≤ c ∧ c ≤ maxLen ∧ (a = none → c = 0) ∧ ∀ b off, a = some ⟨b, off, none⟩ → B ≤ b ∧ b < T ∧ b < w.heap.size ∧ v.ownBlock ≠ some b
theorem RowsOwn.nil (w : World) (B T : Nat) : RowsOwn w B T (.slice none 0 0) [] := ⟨[], rfl, OwnX.nil _ _ _ _ _, fun g e => by simp [Value.ownBlock] at e, fun x hx => by simp at hx⟩
theorem RowsOwn.at {w : World} {B T : Nat} {v : Value} {rows : List RowP} (h : RowsOwn w B T v rows) : ∃ a c, v = .slice a rows.length c ∧ RowsAt w a rows ∧ rows.length ≤ c ∧ c ≤ maxLen := by
  obtain ⟨L, rfl, h2, _, h4⟩ := h
  obtain ⟨a, c, h5, h6, h7, h8, _⟩ := h2.sl
  rw [List.length_map]
  exact ⟨a, c, h5, ⟨L, rfl, h6, fun x hx => by obtain ⟨a', c', k1, k2, k3, k4, k5, _⟩ := h4 x hx; exact ⟨a', c', k1, k2, k3, k4, k5⟩⟩, h7, h8⟩
theorem RowsOwn.mono {w : World} {B T T' : Nat} {v : Value} {rows : List RowP} (h : RowsOwn w B T v rows) (hT : T ≤ T') : RowsOwn w B T' v rows := by
  obtain ⟨L, h1, h2, h3, h4⟩ := h
  refine ⟨L, h1, h2, fun g e => Nat.lt_of_lt_of_le (h3 g e) hT, fun x hx => ?_⟩
  obtain ⟨a, c, k1, k2, k3, k4, k5, k6⟩ := h4 x hx
  exact ⟨a, c, k1, k2, k3, k4, k5, fun b off e => by obtain ⟨m1, m2, m3⟩ := k6 b off e; exact ⟨m1, Nat.lt_of_lt_of_le m2 hT, m3⟩⟩
theorem RowsOwn.upd {F : Foot} {w x : World} {B T : Nat} {v : Value} {rows : List RowP} (h : RowsOwn w B T v rows) (hu : Upd F w x) (hF : ∀ k, F k → k < B ∨ T ≤ k) : RowsOwn x B T v rows := by
  obtain ⟨L, h1, h2, h3, h4⟩ := h
  refine ⟨L, h1, h2.stays fun g e => hu.block g (h2.lt g e).2 (fun f => by have := hF g f; have := (h2.lt g e).1; have := h3 g e; omega), h3, fun x hx => ?_⟩
  obtain ⟨a, c, k1, k2, k3, k4, k5, k6⟩ := h4 x hx
  refine ⟨a, c, k1, k2.stays (fun b off e _ => ?_) hu.size, k3, k4, k5, fun b off e => ?_⟩
  · obtain ⟨m1, m2, m3, _⟩ := k6 b off e
    exact hu.block b m3 (fun f => by have := hF b f; omega)
  · obtain ⟨m1, m2, m3, m4⟩ := k6 b off e
    exact ⟨m1, m2, Nat.lt_of_lt_of_le m3 hu.size, m4⟩
theorem RowsOwn.push {w w1 : World} {B T gg cap n : Nat} {v pv : Value} {rows : List RowP} {r : RowP} {P : Nat} (h : RowsOwn w B T v rows) (hB : B ≤ T) (hT : T ≤ P) (hp : OwnX 3 1 natV w P pv r.parents) {o : Obj}
    (hown : w1.ownsRow B 188 5 (.slice (some ⟨gg, 0, none⟩) (n + 1) cap) (n + 1) ((Classical.choose h).flatMap rowC ++ rowC (pv, r))) (hn : n = rows.length) (hg : (w.alloc o).grownBy w1 v.ownBlock) (hat : v.ownBlock = some gg ∨ gg = w.heap.size + 1) (hlt : gg < w1.heap.size) :
    RowsOwn w1 B w1.heap.size (.slice (some ⟨gg, 0, none⟩) (n + 1) cap) (rows ++ [r]) := by
  obtain ⟨h1, h2, h3, h4⟩ := Classical.choose_spec h
  generalize Classical.choose h = L at *
  subst hn
  obtain ⟨pa, pc, hpv, hpc, hp1, hp2, hp3, hp4⟩ := hp.sl
  have hz : w.heap.size + 1 ≤ w1.heap.size := Nat.le_trans (by simp) hg.size
  have hbp : ∀ b off, pa = some ⟨b, off, none⟩ → P ≤ b ∧ b < w.heap.size := fun b off e => hp.lt b (hp3 b off e)
  refine ⟨L ++ [(pv, r)], by rw [List.map_append, h1]; rfl, OwnX.push (m := [(pv, r)]) hown ?_ (by simp), fun g e => by cases e; exact hlt, fun x hx => ?_⟩
  · rw [← h1, List.length_map]; rfl
  · have hst : ∀ b, b < w.heap.size → some b ≠ v.ownBlock → w1.heap[b]? = w.heap[b]? := fun b hb hne => by
      rw [hg.block b (by simp; omega) hne, Below.heap_alloc _ _ _ hb]
    rcases List.mem_append.1 hx with hx | hx
    · obtain ⟨a, c, k1, k2, k3, k4, k5, k6⟩ := h4 x hx
      refine ⟨a, c, k1, k2.stays (fun b off e _ => ?_) (by omega), k3, k4, k5, fun b off e => ?_⟩
      · obtain ⟨m1, m2, m3, m4⟩ := k6 b off e
        exact hst b m3 (Ne.symm m4)
      · obtain ⟨m1, m2, m3, m4⟩ := k6 b off e
        refine ⟨m1, by omega, by omega, fun e2 => ?_⟩
        have e3 : gg = b := by simpa [Value.ownBlock] using e2
        subst e3
        rcases hat with h | h
        · exact m4 h
        · omega
    · rw [List.mem_singleton.1 hx]
      refine ⟨pa, pc, hpv, hpc.stays (fun b off e _ => ?_) (by omega), hp1, hp2, fun e => ?_, fun b off e => ?_⟩
      · obtain ⟨m1, m2⟩ := hbp b off e
        exact hst b m2 (fun e2 => by have := h3 b e2.symm; omega)
      · subst e
        have hl := hp4 rfl
        rcases hp.2 with ⟨hv, _⟩ | ⟨g, cp, cur, hv, _⟩
        · rw [hpv] at hv; exact (Value.slice.inj hv).2.2
        · rw [hpv] at hv; exact absurd (Value.slice.inj hv).1 (by simp)
      · obtain ⟨m1, m2⟩ := hbp b off e
        refine ⟨by omega, by omega, by omega, fun e2 => ?_⟩
        have e3 : gg = b := by simpa [Value.ownBlock] using e2
        subst e3
        rcases hat with h | h
        · have := h3 _ h; omega
        · omega
structure RdSt (w0 w : World) (gb p1 p2 p3 p4 : Nat) (r1 r2 r3 r4 : List UInt8) (gc : Array Value) : Prop where
  a1 : RP w p1 r1
  a2 : RP w p2 r2
  a3 : RP w p3 r3
  a4 : RP w p4 r4
  box : w.heap[gb]? = some (.cells gc 103 (0, 0))
  res : ∃ gz, w.heap[w0.heap.size]? = some (.cells gz 103 (0, 0)) ∧ gz.size = 6
  lo : w0.heap.size < gb ∧ gb < p1 ∧ p1 < p2 ∧ p2 < p3 ∧ p3 < p4
  bel : Below w0.heap.size w0 w
section
variable {w0 w x : World} {gb p1 p2 p3 p4 : Nat} {r1 r2 r3 r4 : List UInt8} {gc : Array Value}
theorem RdSt.lt (h : RdSt w0 w gb p1 p2 p3 p4 r1 r2 r3 r4 gc) : p4 < w.heap.size := h.a4.lt
theorem RdSt.upd {F : Foot} (h : RdSt w0 w gb p1 p2 p3 p4 r1 r2 r3 r4 gc) (hu : Upd F w x) (hF : ∀ k, F k → p4 < k) : RdSt w0 x gb p1 p2 p3 p4 r1 r2 r3 r4 gc := by
  obtain ⟨l0, l1, l2, l3, l4⟩ := h.lo
  have hl := h.lt
  obtain ⟨gz, hz1, hz2⟩ := h.res
  exact ⟨h.a1.upd hu (fun e => by have := hF _ e; omega), h.a2.upd hu (fun e => by have := hF _ e; omega), h.a3.upd hu (fun e => by have := hF _ e; omega), h.a4.upd hu (fun e => by have := hF _ e; omega),
    (hu.block gb (by omega) (fun e => by have := hF _ e; omega)).trans h.box, ⟨gz, (hu.block _ (by omega) (fun e => by have := hF _ e; omega)).trans hz1, hz2⟩, h.lo, h.bel.trans (hu.below (fun i e => by have := hF i e; omega) h.bel.size)⟩
theorem RdSt.read {q : Nat} (h : RdSt w0 w gb p1 p2 p3 p4 r1 r2 r3 r4 gc) (hk : Kept w x q) (hq : q = p1 ∨ q = p2 ∨ q = p3 ∨ q = p4) :
    (q ≠ p1 → RP x p1 r1) ∧ (q ≠ p2 → RP x p2 r2) ∧ (q ≠ p3 → RP x p3 r3) ∧ (q ≠ p4 → RP x p4 r4) ∧ x.heap[gb]? = some (.cells gc 103 (0, 0)) ∧ (∃ gz, x.heap[w0.heap.size]? = some (.cells gz 103 (0, 0)) ∧ gz.size = 6) ∧ Below w0.heap.size w0 x := by
  obtain ⟨l0, l1, l2, l3, l4⟩ := h.lo
  have hl := h.lt
  obtain ⟨gz, hz1, hz2⟩ := h.res
  exact ⟨fun e => h.a1.keep hk (Ne.symm e), fun e => h.a2.keep hk (Ne.symm e), fun e => h.a3.keep hk (Ne.symm e), fun e => h.a4.keep hk (Ne.symm e), (hk.block gb (by omega) (by omega)).trans h.box, ⟨gz, (hk.block _ (by omega) (by omega)).trans hz1, hz2⟩, h.bel.trans (hk.below (by omega) h.bel.size)⟩
theorem RdSt.rd1 {r : List UInt8} (h : RdSt w0 w gb p1 p2 p3 p4 r1 r2 r3 r4 gc) (hk : Kept w x p1) (hr : RP x p1 r) : RdSt w0 x gb p1 p2 p3 p4 r r2 r3 r4 gc := by
  obtain ⟨l0, l1, l2, l3, l4⟩ := h.lo
  obtain ⟨_, k2, k3, k4, k5, k6, k7⟩ := h.read hk (.inl rfl)
  exact ⟨hr, k2 (by omega), k3 (by omega), k4 (by omega), k5, k6, h.lo, k7⟩
theorem RdSt.rd2 {r : List UInt8} (h : RdSt w0 w gb p1 p2 p3 p4 r1 r2 r3 r4 gc) (hk : Kept w x p2) (hr : RP x p2 r) : RdSt w0 x gb p1 p2 p3 p4 r1 r r3 r4 gc := by
  obtain ⟨l0, l1, l2, l3, l4⟩ := h.lo
  obtain ⟨k1, _, k3, k4, k5, k6, k7⟩ := h.read hk (.inr (.inl rfl))
  exact ⟨k1 (by omega), hr, k3 (by omega), k4 (by omega), k5, k6, h.lo, k7⟩
theorem RdSt.rd3 {r : List UInt8} (h : RdSt w0 w gb p1 p2 p3 p4 r1 r2 r3 r4 gc) (hk : Kept w x p3) (hr : RP x p3 r) : RdSt w0 x gb p1 p2 p3 p4 r1 r2 r r4 gc := by
  obtain ⟨l0, l1, l2, l3, l4⟩ := h.lo
  obtain ⟨k1, k2, _, k4, k5, k6, k7⟩ := h.read hk (.inr (.inr (.inl rfl)))
  exact ⟨k1 (by omega), k2 (by omega), hr, k4 (by omega), k5, k6, h.lo, k7⟩
theorem RdSt.rd4 {r : List UInt8} (h : RdSt w0 w gb p1 p2 p3 p4 r1 r2 r3 r4 gc) (hk : Kept w x p4) (hr : RP x p4 r) : RdSt w0 x gb p1 p2 p3 p4 r1 r2 r3 r gc := by
  obtain ⟨l0, l1, l2, l3, l4⟩ := h.lo
  obtain ⟨k1, k2, k3, _, k5, k6, k7⟩ := h.read hk (.inr (.inr (.inr rfl)))
  exact ⟨k1 (by omega), k2 (by omega), k3 (by omega), hr, k5, k6, h.lo, k7⟩
theorem RdSt.put (h : RdSt w0 w gb p1 p2 p3 p4 r1 r2 r3 r4 gc) (i : Nat) (v : Value) : RdSt w0 (w.setCell ⟨gb, i, none⟩ v) gb p1 p2 p3 p4 r1 r2 r3 r4 (gc.setIfInBounds i v) := by
  obtain ⟨l0, l1, l2, l3, l4⟩ := h.lo
  have hu : Upd (· = gb) w (w.setCell ⟨gb, i, none⟩ v) := (Upd.refl _ w).set gb i v (.inl rfl)
  obtain ⟨gz, hz1, hz2⟩ := h.res
  exact ⟨h.a1.upd hu (by omega), h.a2.upd hu (by omega), h.a3.upd hu (by omega), h.a4.upd hu (by omega), heap_setCell_same w gb i _ _ v h.box, ⟨gz, (heap_setCell_other _ _ _ _ (Nat.ne_of_lt l0)).trans hz1, hz2⟩, h.lo, h.bel.trans (hu.below (fun k e => by have : k = gb := e; omega) h.bel.size)⟩
theorem RdSt.cell (h : RdSt w0 w gb p1 p2 p3 p4 r1 r2 r3 r4 gc) (i : Nat) : w.cell? ⟨gb, i, none⟩ = gc[i]? ∧ w.frozen? ⟨gb, i, none⟩ = false :=
  ⟨cell_of_row _ _ _ _ _ _ h.box, frozen_of_row _ _ _ _ _ h.box⟩
end
end Go.Proofs.YtbhfbdcmamodcaaGreatDoor
namespace Go.Proofs.YtbhfbdcmamodcaaGreatDoor
open Go.RowKit PackMath SumMath
theorem RowsOwn.row {w : World} {B T k : Nat} {v : Value} {rows : List RowP} (h : RowsOwn w B T v rows) (hk : rows.length = k) : w.ownsRow B 188 5 v k ((Classical.choose h).flatMap rowC) := by
  have h1 := (Classical.choose_spec h).1
  have h2 : w.ownsRow B 188 5 v (Classical.choose h).length ((Classical.choose h).flatMap rowC) := (Classical.choose_spec h).2.1
  have hl : (Classical.choose h).length = k := by
    have h3 := congrArg List.length h1
    rw [List.length_map] at h3
    omega
  rw [hl] at h2
  exact h2
theorem RowsOwn.low {w : World} {B C T : Nat} {v : Value} {rows : List RowP} (h : RowsOwn w B T v rows) (hC : C ≤ B) : RowsOwn w C T v rows := by
  obtain ⟨L, h1, h2, h3, h4⟩ := h
  refine ⟨L, h1, h2.mono hC, h3, fun x hx => ?_⟩
  obtain ⟨a, c, k1, k2, k3, k4, k5, k6⟩ := h4 x hx
  exact ⟨a, c, k1, k2, k3, k4, k5, fun b off e => by obtain ⟨m1, m2⟩ := k6 b off e; exact ⟨by omega, m2⟩⟩
structure RowSt (w0 w : World) (gb p1 p2 p3 p4 : Nat) (r1 r2 r3 r4 : List UInt8) (gc : Array Value) (q : Nat) (v : Value) (rows : List RowP) (bx : Array Value) (P : Nat) (pv : Value) (ps : List Nat) : Prop where
  st : RdSt w0 w gb p1 p2 p3 p4 r1 r2 r3 r4 gc
  ro : RowsOwn w (p4 + 1) q v rows
  box : w.heap[q]? = some (.cells bx 188 (0, 0))
  q4 : p4 < q
  pr : OwnX 3 1 natV w P pv ps
  qP : q < P
section
variable {w0 w x : World} {gb p1 p2 p3 p4 : Nat} {r1 r2 r3 r4 : List UInt8} {gc : Array Value} {q : Nat} {v : Value} {rows : List RowP} {bx : Array Value} {P : Nat} {pv : Value} {ps : List Nat}
theorem RowSt.lt (h : RowSt w0 w gb p1 p2 p3 p4 r1 r2 r3 r4 gc q v rows bx P pv ps) : q < w.heap.size := (Array.getElem?_eq_some_iff.1 h.box).1
theorem RowSt.start (h : RdSt w0 w gb p1 p2 p3 p4 r1 r2 r3 r4 gc) (hr : RowsOwn w (p4 + 1) w.heap.size v rows) (bx : Array Value) : RowSt w0 (w.alloc (.cells bx 188)) gb p1 p2 p3 p4 r1 r2 r3 r4 gc w.heap.size v rows bx (w.heap.size + 1) (.slice none 0 0) [] := by
  have hb := bl_alloc (Below.refl _ w) (.cells bx 188)
  exact ⟨h.upd (Upd.of (F := fun _ => False) hb) (fun _ e => e.elim), hr.upd (Upd.of (F := fun _ => False) hb) (fun _ e => e.elim), heap_alloc_new w _, h.lt, OwnX.nil _ _ _ _ _, Nat.lt_succ_self _⟩
theorem RowSt.rdq {r : Nat} (h : RowSt w0 w gb p1 p2 p3 p4 r1 r2 r3 r4 gc q v rows bx P pv ps) (hk : Kept w x r) (hr : r ≤ p4) : RowsOwn x (p4 + 1) q v rows ∧ x.heap[q]? = some (.cells bx 188 (0, 0)) ∧ OwnX 3 1 natV x P pv ps := by
  have hq := h.q4
  have hl := h.lt
  have hP := h.qP
  exact ⟨h.ro.upd hk.upd (fun k e => by have : k = r := e; omega), (hk.block q hl (by omega)).trans h.box, h.pr.stays fun g e => hk.block g (h.pr.lt g e).2 (by have := (h.pr.lt g e).1; omega)⟩
theorem RowSt.rd2 {r : List UInt8} (h : RowSt w0 w gb p1 p2 p3 p4 r1 r2 r3 r4 gc q v rows bx P pv ps) (hk : Kept w x p2) (hr : RP x p2 r) : RowSt w0 x gb p1 p2 p3 p4 r1 r r3 r4 gc q v rows bx P pv ps := by
  obtain ⟨l0, l1, l2, l3, l4⟩ := h.st.lo
  obtain ⟨k1, k2, k3⟩ := h.rdq hk (by omega)
  exact ⟨h.st.rd2 hk hr, k1, k2, h.q4, k3, h.qP⟩
theorem RowSt.rd3 {r : List UInt8} (h : RowSt w0 w gb p1 p2 p3 p4 r1 r2 r3 r4 gc q v rows bx P pv ps) (hk : Kept w x p3) (hr : RP x p3 r) : RowSt w0 x gb p1 p2 p3 p4 r1 r2 r r4 gc q v rows bx P pv ps := by
  obtain ⟨l0, l1, l2, l3, l4⟩ := h.st.lo
  obtain ⟨k1, k2, k3⟩ := h.rdq hk (by omega)
  exact ⟨h.st.rd3 hk hr, k1, k2, h.q4, k3, h.qP⟩
theorem RowSt.rd4 {r : List UInt8} (h : RowSt w0 w gb p1 p2 p3 p4 r1 r2 r3 r4 gc q v rows bx P pv ps) (hk : Kept w x p4) (hr : RP x p4 r) : RowSt w0 x gb p1 p2 p3 p4 r1 r2 r3 r gc q v rows bx P pv ps := by
  obtain ⟨k1, k2, k3⟩ := h.rdq hk (Nat.le_refl _)
  exact ⟨h.st.rd4 hk hr, k1, k2, h.q4, k3, h.qP⟩
theorem RowSt.put (h : RowSt w0 w gb p1 p2 p3 p4 r1 r2 r3 r4 gc q v rows bx P pv ps) (i : Nat) (u : Value) : RowSt w0 (w.setCell ⟨q, i, none⟩ u) gb p1 p2 p3 p4 r1 r2 r3 r4 gc q v rows (bx.setIfInBounds i u) P pv ps := by
  have hu : Upd (· = q) w (w.setCell ⟨q, i, none⟩ u) := (Upd.refl _ w).set q i u (.inl rfl)
  have hq := h.q4
  have hP := h.qP
  exact ⟨h.st.upd hu (fun k e => by have : k = q := e; omega), h.ro.upd hu (fun k e => by have : k = q := e; omega), heap_setCell_same w q i _ _ u h.box, h.q4, h.pr.stays fun g e => hu.block g (h.pr.lt g e).2 (fun f => by have : g = q := f; have := (h.pr.lt g e).1; omega), h.qP⟩
theorem RowSt.cell (h : RowSt w0 w gb p1 p2 p3 p4 r1 r2 r3 r4 gc q v rows bx P pv ps) (i : Nat) : w.cell? ⟨q, i, none⟩ = bx[i]? ∧ w.frozen? ⟨q, i, none⟩ = false :=
  ⟨cell_of_row _ _ _ _ _ _ h.box, frozen_of_row _ _ _ _ _ h.box⟩
theorem RowSt.par {qs : List Nat} {u : Value} (h : RowSt w0 w gb p1 p2 p3 p4 r1 r2 r3 r4 gc q v rows bx P pv ps) (hb : Below w.heap.size w x) (ho : OwnX 3 1 natV x w.heap.size u qs) : RowSt w0 x gb p1 p2 p3 p4 r1 r2 r3 r4 gc q v rows bx w.heap.size u qs :=
  ⟨h.st.upd (Upd.of (F := fun _ => False) hb) (fun _ e => e.elim), h.ro.upd (Upd.of (F := fun _ => False) hb) (fun _ e => e.elim), (hb.block q h.lt).trans h.box, h.q4, ho, h.lt⟩
theorem RowSt.done {w1 : World} {gg cap n : Nat} {r : RowP} (h : RowSt w0 w gb p1 p2 p3 p4 r1 r2 r3 r4 gc q v rows bx P pv r.parents) {o : Obj}
    (hown : w1.ownsRow (p4 + 1) 188 5 (.slice (some ⟨gg, 0, none⟩) (n + 1) cap) (n + 1) ((Classical.choose h.ro).flatMap rowC ++ rowC (pv, r))) (hn : n = rows.length) (hg : (w.alloc o).grownBy w1 v.ownBlock) (hat : v.ownBlock = some gg ∨ gg = (w.alloc o).heap.size) (hlt : gg < w1.heap.size) :
    RdSt w0 (w1.setCell ⟨gb, 5, none⟩ (.slice (some ⟨gg, 0, none⟩) (n + 1) cap)) gb p1 p2 p3 p4 r1 r2 r3 r4 (gc.setIfInBounds 5 (.slice (some ⟨gg, 0, none⟩) (n + 1) cap)) ∧ RowsOwn (w1.setCell ⟨gb, 5, none⟩ (.slice (some ⟨gg, 0, none⟩) (n + 1) cap)) (p4 + 1) (w1.setCell ⟨gb, 5, none⟩ (.slice (some ⟨gg, 0, none⟩) (n + 1) cap)).heap.size (.slice (some ⟨gg, 0, none⟩) (n + 1) cap) (rows ++ [r]) := by
  obtain ⟨l0, l1, l2, l3, l4⟩ := h.st.lo
  have hq := h.q4
  have hro := (Classical.choose_spec h.ro).2.1
  have hu : Upd (fun k => p4 < k) w w1 := ((Upd.refl _ w).alloc o).grown hg (fun g e => .inl (by have := (hro.lt g e).1; omega))
  have h1 := h.ro.push (by omega) (Nat.le_of_lt h.qP) h.pr hown hn hg (hat.imp id (fun e => by rw [e]; simp)) hlt
  have h2 : Upd (· = gb) w1 (w1.setCell ⟨gb, 5, none⟩ (.slice (some ⟨gg, 0, none⟩) (n + 1) cap)) := (Upd.refl _ w1).set gb 5 _ (.inl rfl)
  refine ⟨(h.st.upd hu (fun _ e => e)).put 5 _, ?_⟩
  have h3 := h1.upd h2 (fun k e => by have : k = gb := e; omega)
  exact h3.mono h2.size
end
end Go.Proofs.YtbhfbdcmamodcaaGreatDoor
namespace Go.Proofs.YtbhfbdcmamodcaaGreatDoor
open Go.RowKit PackMath SumMath
def ParOk : Prop := ∀ (r : RowP) (e : Nat) (s : ByteArray) (pre post : List UInt8), r.parents.length ≤ 16 → (∀ x ∈ r.parents, x < 1000000) → 4 ∣ e → e ≤ 4000000 → s.data.toList = pre ++ (edgeR r ++ post) → pre.length = e → s.size ≤ 10000000 → ∀ w,
  Calls Tryz.prog 228 #[.int .u32 (firstP r : Nat), .int .u32 (secondP r e : Nat), .string s] w (ParSaid r.parents w)
def ReadG (g : GraphP) (w : World) (e : Ending) (w' : World) : Prop := ∃ v, e = .returned (.agg #[.int .i64 (g.base : Nat), .int .i64 (g.set.H : Nat), .int .i64 (g.set.P : Nat), .int .i64 (g.set.M : Nat), .int .u32 (g.set.S : Nat), v]) ∧ RowsOwn w' w.heap.size w'.heap.size v g.rows ∧ Below w.heap.size w w'
theorem rows_drop {l : List RowP} {k : Nat} (h : k < l.length) (e : Nat) : rowsB (l.drop k) e = be l[k].tree 4 ++ (be (firstP l[k]) 4 ++ (be (secondP l[k] e) 4 ++ (be l[k].gen 2 ++ (be l[k].st 1 ++ rowsB (l.drop (k + 1)) (e + (edgeR l[k]).length))))) := by
  rw [List.drop_eq_getElem_cons h, rowsB]; simp [rowB]
theorem ends_drop {l : List RowP} {k : Nat} (h : k < l.length) (n : Nat) : endsB (l.drop k) n = be (n + l[k].bits.size) 4 ++ endsB (l.drop (k + 1)) (n + l[k].bits.size) := by
  rw [List.drop_eq_getElem_cons h, endsB]
theorem bits_drop {l : List RowP} {k : Nat} (h : k < l.length) : bitsB (l.drop k) = l[k].bits.data.toList ++ bitsB (l.drop (k + 1)) := by
  rw [List.drop_eq_getElem_cons h, bits_cons]
theorem edges_split {l : List RowP} {k : Nat} (h : k < l.length) : edgesB l = edgesB (l.take k) ++ (edgeR l[k] ++ edgesB (l.drop (k + 1))) := by
  have e : l = l.take k ++ l[k] :: l.drop (k + 1) := by rw [← List.drop_eq_getElem_cons h, List.take_append_drop]
  have := congrArg edgesB e
  rw [this]
  unfold edgesB
  rw [List.flatMap_append, List.flatMap_cons]
theorem first_lt (r : RowP) (h : ∀ x ∈ r.parents, x < 1000000) : firstP r < 4294967296 := by
  unfold firstP
  split
  · decide
  · rename_i p l e; have := h p (by rw [e]; simp); omega
theorem second_lt (r : RowP) (e : Nat) (h : ∀ x ∈ r.parents, x < 1000000) (he : e ≤ 4000000) : secondP r e < 4294967296 := by
  unfold secondP
  split
  · decide
  · decide
  · rename_i p q e2; have := h q (by rw [e2]; simp); omega
  · omega
theorem infoRow : (Tryz.prog.info? 188).map (fun i => (i.zero, i.size, i.bytes)) = some (some (.agg #[.slice none 0 0, .int .i64 0, .int .i64 0, .int .i64 0, .string ⟨#[]⟩]), 5, 64) := by kernel_rfl
theorem ParSaid.sl {ps : List Nat} {f : FuncId} {args : Array Value} {w : World} (h : Calls Tryz.prog f args w (ParSaid ps w)) : Calls Tryz.prog f args w fun e w' => ∃ pa pc, e = .returned (.slice pa ps.length pc) ∧ OwnX 3 1 natV w' w.heap.size (.slice pa ps.length pc) ps ∧ Below w.heap.size w w' :=
  h.mono fun e w' ⟨v, h1, h2, h3⟩ => by
    obtain ⟨pa, pc, hv, _⟩ := h2.sl
    subst hv
    exact ⟨pa, pc, h1, h2, h3⟩
theorem arr6 (gz : Array Value) (h : gz.size = 6) : ∃ a b c d e f, gz = #[a, b, c, d, e, f] := by
  obtain ⟨l⟩ := gz
  simp at h
  match l, h with
  | [a, b, c, d, e, f], _ => exact ⟨a, b, c, d, e, f, rfl⟩
def six (w : World) (s : Nat) (a b c d e f : Value) : World := (((((w.setCell ⟨s, 0, none⟩ a).setCell ⟨s, 1, none⟩ b).setCell ⟨s, 2, none⟩ c).setCell ⟨s, 3, none⟩ d).setCell ⟨s, 4, none⟩ e).setCell ⟨s, 5, none⟩ f
theorem six_row {w : World} {s : Nat} {z0 z1 z2 z3 z4 z5 : Value} {t : TypeId} (h : w.heap[s]? = some (.cells #[z0, z1, z2, z3, z4, z5] t (0, 0))) (a b c d e f : Value) : (six w s a b c d e f).heap[s]? = some (.cells #[a, b, c, d, e, f] t (0, 0)) :=
  heap_setCell_same _ s 5 _ _ f (heap_setCell_same _ s 4 _ _ e (heap_setCell_same _ s 3 _ _ d (heap_setCell_same _ s 2 _ _ c (heap_setCell_same _ s 1 _ _ b (heap_setCell_same w s 0 _ _ a h)))))
theorem six_upd (w : World) (s : Nat) (a b c d e f : Value) : Upd (· = s) w (six w s a b c d e f) :=
  ((((((Upd.refl (fun k => k = s) w).set s 0 a (.inl rfl)).set s 1 b (.inl rfl)).set s 2 c (.inl rfl)).set s 3 d (.inl rfl)).set s 4 e (.inl rfl)).set s 5 f (.inl rfl)
theorem read_end {w wr : World} {gb p1 p2 p3 p4 : Nat} {r1 r2 r3 r4 : List UInt8} {gc : Array Value} {v : Value} {rows : List RowP} {z0 z1 z2 z3 z4 z5 : Value} (h : RdSt w wr gb p1 p2 p3 p4 r1 r2 r3 r4 gc) (hr : RowsOwn wr (p4 + 1) wr.heap.size v rows) (hz : wr.heap[w.heap.size]? = some (.cells #[z0, z1, z2, z3, z4, z5] 103 (0, 0))) (a b c d e f : Value) :
    (six wr w.heap.size a b c d e f).heap[w.heap.size]? = some (.cells #[a, b, c, d, e, f] 103 (0, 0)) ∧ RowsOwn (six wr w.heap.size a b c d e f) w.heap.size (six wr w.heap.size a b c d e f).heap.size v rows ∧ Below w.heap.size w (six wr w.heap.size a b c d e f) := by
  obtain ⟨l0, l1, l2, l3, l4⟩ := h.lo
  have hu := six_upd wr w.heap.size a b c d e f
  exact ⟨six_row hz a b c d e f, ((hr.upd hu (fun k e => by have : k = w.heap.size := e; omega)).low (by omega)).mono hu.size, h.bel.trans (hu.below (fun k e => by have : k = w.heap.size := e; omega) h.bel.size)⟩
def gz0 : Array Value := #[.int .i64 0, .int .i64 0, .int .i64 0, .int .i64 0, .int .u32 0, .slice none 0 0]
set_option maxHeartbeats 2000000 in
set_option maxRecDepth 100000 in
theorem gRead (HPar : ParOk) (g : GraphP) (hg : GoodGraph g) (a : Option Addr) (c : Nat) (w : World) (h : CellsAt w a ((chunksG g).flatMap chunkV)) :
    Calls Tryz.prog 195 #[.slice a 5 c] w (ReadG g w) := by
  have HD0 := Lib.hid (fun W hW => gData g hg 0 (by decide) 1 rfl 1 rfl a c W hW)
  have HD1 := Lib.hid (fun W hW => gData g hg 1 (by decide) 2 rfl 2 rfl a c W hW)
  have HD3 := Lib.hid (fun W hW => gData g hg 3 (by decide) 4 rfl 4 rfl a c W hW)
  have HD4 := Lib.hid (fun W hW => gData g hg 4 (by decide) 5 rfl 5 rfl a c W hW)
  have HEd := Lib.hid (fun W hW => gEdges g a c W hW)
  have HA := Lib.hid h
  have hfew := hg.few
  have hS := hg.set.S; have hH := hg.set.H; have hP := hg.set.P; have hM := hg.set.M
  have HG := Lib.hid hg
  obtain ⟨W1, hW1⟩ : ∃ W1, (w.alloc (.cells #[.int .i64 0, .int .i64 0, .int .i64 0, .int .i64 0, .int .u32 0, .slice none 0 0] 103)).alloc (.cells #[.int .i64 0, .int .i64 0, .int .i64 0, .int .i64 0, .int .u32 0, .slice none 0 0] 103) = W1 := ⟨_, rfl⟩
  have HB1 := Lib.hid (show Below w.heap.size w W1 by rw [← hW1]; exact bl_alloc (bl_alloc (Below.refl _ w) _) _)
  have HX1 := Lib.hid (show W1.heap[w.heap.size]? = some (.cells gz0 103 (0, 0)) ∧ W1.heap[w.heap.size + 1]? = some (.cells gz0 103 (0, 0)) ∧ W1.heap.size = w.heap.size + 2 by
    rw [← hW1]
    refine ⟨?_, ?_, by simp⟩
    · rw [Below.heap_alloc _ _ _ (by simp)]; exact heap_alloc_new w _
    · have := heap_alloc_new (w.alloc (.cells gz0 103)) (.cells gz0 103)
      rwa [show (w.alloc (.cells gz0 103)).heap.size = w.heap.size + 1 by simp] at this)
  have HW1 := Lib.hid hW1
  clear h hg hW1
  go_enter Tryz.func195, Tryz.ntmps195
  go_wp2_with fail
  rw [HW1.out]
  (with_reducible refine (HD0.out W1 (HA.out.below HB1.out)).mono ?_)
  rintro e w2 ⟨p1, rfl, hp1, hr1, hb⟩
  have HB2 := Lib.hid (bl_trans HB1.out hb); have HP1 := Lib.hid hr1; have HB12 := Lib.hid hb
  have hl1 := hr1.lt
  clear hb hr1
  go_wp2_with fail
  (with_reducible refine (HD1.out w2 (HA.out.below HB2.out)).mono ?_)
  rintro e w3 ⟨p2, rfl, hp2, hr2, hb⟩
  have HB3 := Lib.hid (bl_trans HB2.out hb); have HP2 := Lib.hid hr2; have HP13 := Lib.hid (HP1.out.below hb); have HB13 := Lib.hid (bl_trans HB12.out hb)
  have hl2 := hr2.lt
  clear hb hr2
  go_wp2_with fail
  (with_reducible refine (HD3.out w3 (HA.out.below HB3.out)).mono ?_)
  rintro e w4 ⟨p3, rfl, hp3, hr3, hb⟩
  have HB4 := Lib.hid (bl_trans HB3.out hb); have HP3 := Lib.hid hr3; have HP14 := Lib.hid (HP13.out.below hb); have HP24 := Lib.hid (HP2.out.below hb); have HB14 := Lib.hid (bl_trans HB13.out hb)
  have hl3 := hr3.lt
  clear hb hr3
  go_wp2_with fail
  (with_reducible refine (HD4.out w4 (HA.out.below HB4.out)).mono ?_)
  rintro e w5 ⟨p4, rfl, hp4, hr4, hb⟩
  have HB5 := Lib.hid (bl_trans HB4.out hb); have HP4 := Lib.hid hr4; have HP15 := Lib.hid (HP14.out.below hb); have HP25 := Lib.hid (HP24.out.below hb); have HP35 := Lib.hid (HP3.out.below hb); have HB15 := Lib.hid (bl_trans HB14.out hb)
  have hl4 := hr4.lt
  clear hb hr4
  go_wp2_with fail
  (with_reducible refine (HEd.out w5 (HA.out.below HB5.out)).mono ?_)
  rintro e w6 ⟨rfl, hb⟩
  obtain ⟨gb, hgb⟩ : ∃ gb, w.heap.size + 1 = gb := ⟨_, rfl⟩
  have hst : RdSt w w6 gb p1 p2 p3 p4 (headG g) (rowsB g.rows 0) (endsB g.rows 0) (bitsB g.rows) gz0 := by
    obtain ⟨x1, x2, x3⟩ := HX1.out
    have hb6 := bl_trans HB15.out hb
    refine ⟨HP15.out.below hb, HP25.out.below hb, HP35.out.below hb, HP4.out.below hb, ?_, ⟨gz0, ?_, rfl⟩, by omega, bl_trans HB5.out hb⟩
    · rw [hb6.block gb (by omega), ← hgb]; exact x2
    · rw [hb6.block _ (by omega)]; exact x1
  have HSt := Lib.hid hst
  rw [hgb]
  clear hst hb HX1 HW1 HB1 HB2 HB3 HB4 HB5 HP1 HP2 HP3 HP4 HP13 HP14 HP24 HP15 HP25 HP35 HB12 HB13 HB14 HB15 hgb hl1 hl2 hl3 hl4 hp1 hp2 hp3 hp4 HD0 HD1 HD3 HD4 HEd
  -- HEAD
  have hw1 : wrap64 (g.base : Int) = (g.base : Int) := IntWalk.wrap64_in _ (by omega)
  have hw2 : wrap64 (g.set.H : Int) = (g.set.H : Int) := IntWalk.wrap64_in _ (by omega)
  have hw3 : wrap64 (g.set.P : Int) = (g.set.P : Int) := IntWalk.wrap64_in _ (by omega)
  have hw4 : wrap64 (g.set.M : Int) = (g.set.M : Int) := IntWalk.wrap64_in _ (by omega)
  have hrw : headG g = be g.base 4 ++ (be g.rows.length 4 ++ (be g.set.H 1 ++ (be g.set.P 1 ++ (be g.set.M 2 ++ (be g.set.S 4 ++ []))))) := by simp [headG]
  have hs0 := HSt.out
  rw [hrw] at hs0
  have S0 := Lib.hid hs0
  clear hs0 HSt hrw
  go_wp2_with fail
  (with_reducible refine (rpU32 _ S0.out.a1 (by omega)).mono ?_)
  rintro e u0 ⟨rfl, hk, hr⟩
  have S1 := Lib.hid (S0.out.rd1 hk hr)
  clear hk hr
  go_wp2_with fail
  (with_reducible refine (mU32 _ u0).mono ?_)
  rintro e m0 ⟨rfl, rfl⟩
  have cc : u0.cell? ⟨gb, 0, none⟩ = some (.int .i64 0) := (S1.out.cell 0).1
  have cf := (S1.out.cell 0).2
  obtain ⟨V0, hV⟩ : ∃ V, u0.setCell ⟨gb, 0, none⟩ (.int .i64 (g.base : Nat)) = V := ⟨_, rfl⟩
  have S2 := Lib.hid (show RdSt w V0 gb p1 p2 p3 p4 _ _ _ _ _ from by rw [← hV]; exact S1.out.put 0 _)
  have HV0 := Lib.hid hV
  clear hV
  go_upto_region 5 with (fail)
  rw [HV0.out]
  clear cc cf HV0
  go_wp2_with fail
  (with_reducible refine (rpU32 _ S2.out.a1 (by omega)).mono ?_)
  rintro e u1 ⟨rfl, hk, hr⟩
  have S3 := Lib.hid (S2.out.rd1 hk hr)
  clear hk hr
  go_wp2_with fail
  (with_reducible refine (mU32 _ u1).mono ?_)
  rintro e m1 ⟨rfl, rfl⟩
  go_wp2_with fail
  (with_reducible refine (rpU8 _ S3.out.a1 (by omega)).mono ?_)
  rintro e u2 ⟨rfl, hk, hr⟩
  have S4 := Lib.hid (S3.out.rd1 hk hr)
  clear hk hr
  go_wp2_with fail
  (with_reducible refine (mU8 _ u2).mono ?_)
  rintro e m2 ⟨rfl, rfl⟩
  have cc : u2.cell? ⟨gb, 1, none⟩ = some (.int .i64 0) := (S4.out.cell 1).1
  have cf := (S4.out.cell 1).2
  obtain ⟨V2, hV⟩ : ∃ V, u2.setCell ⟨gb, 1, none⟩ (.int .i64 (g.set.H : Nat)) = V := ⟨_, rfl⟩
  have S5 := Lib.hid (show RdSt w V2 gb p1 p2 p3 p4 _ _ _ _ _ from by rw [← hV]; exact S4.out.put 1 _)
  have HV2 := Lib.hid hV
  clear hV
  go_upto_region 7 with (fail)
  rw [HV2.out]
  clear cc cf HV2
  go_wp2_with fail
  (with_reducible refine (rpU8 _ S5.out.a1 (by omega)).mono ?_)
  rintro e u3 ⟨rfl, hk, hr⟩
  have S6 := Lib.hid (S5.out.rd1 hk hr)
  clear hk hr
  go_wp2_with fail
  (with_reducible refine (mU8 _ u3).mono ?_)
  rintro e m3 ⟨rfl, rfl⟩
  have cc : u3.cell? ⟨gb, 2, none⟩ = some (.int .i64 0) := (S6.out.cell 2).1
  have cf := (S6.out.cell 2).2
  obtain ⟨V3, hV⟩ : ∃ V, u3.setCell ⟨gb, 2, none⟩ (.int .i64 (g.set.P : Nat)) = V := ⟨_, rfl⟩
  have S7 := Lib.hid (show RdSt w V3 gb p1 p2 p3 p4 _ _ _ _ _ from by rw [← hV]; exact S6.out.put 2 _)
  have HV3 := Lib.hid hV
  clear hV
  go_upto_region 8 with (fail)
  rw [HV3.out]
  clear cc cf HV3
  go_wp2_with fail
  (with_reducible refine (rpU16 _ S7.out.a1 (by omega)).mono ?_)
  rintro e u4 ⟨rfl, hk, hr⟩
  have S8 := Lib.hid (S7.out.rd1 hk hr)
  clear hk hr
  go_wp2_with fail
  (with_reducible refine (mU16 _ u4).mono ?_)
  rintro e m4 ⟨rfl, rfl⟩
  have cc : u4.cell? ⟨gb, 3, none⟩ = some (.int .i64 0) := (S8.out.cell 3).1
  have cf := (S8.out.cell 3).2
  obtain ⟨V4, hV⟩ : ∃ V, u4.setCell ⟨gb, 3, none⟩ (.int .i64 (g.set.M : Nat)) = V := ⟨_, rfl⟩
  have S9 := Lib.hid (show RdSt w V4 gb p1 p2 p3 p4 _ _ _ _ _ from by rw [← hV]; exact S8.out.put 3 _)
  have HV4 := Lib.hid hV
  clear hV
  go_upto_region 9 with (fail)
  rw [HV4.out]
  clear cc cf HV4
  go_wp2_with fail
  (with_reducible refine (rpU32 _ S9.out.a1 (by omega)).mono ?_)
  rintro e u5 ⟨rfl, hk, hr⟩
  have S10 := Lib.hid (S9.out.rd1 hk hr)
  clear hk hr
  go_wp2_with fail
  (with_reducible refine (mU32 _ u5).mono ?_)
  rintro e m5 ⟨rfl, rfl⟩
  have cc : u5.cell? ⟨gb, 4, none⟩ = some (.int .u32 0) := (S10.out.cell 4).1
  have cf := (S10.out.cell 4).2
  obtain ⟨V5, hV⟩ : ∃ V, u5.setCell ⟨gb, 4, none⟩ (.int .u32 (g.set.S : Nat)) = V := ⟨_, rfl⟩
  have S11 := Lib.hid (show RdSt w V5 gb p1 p2 p3 p4 _ _ _ _ _ from by rw [← hV]; exact S10.out.put 4 _)
  have HV5 := Lib.hid hV
  clear hV
  go_upto_region 10 with (fail)
  rw [HV5.out]
  clear cc cf HV5
  have HS := Lib.hid (show RdSt w V5 gb p1 p2 p3 p4 [] (rowsB (g.rows.drop 0) (edgesB (g.rows.take 0)).length) (endsB (g.rows.drop 0) (bitsB (g.rows.take 0)).length) (bitsB (g.rows.drop 0)) #[.int .i64 (g.base : Nat), .int .i64 (g.set.H : Nat), .int .i64 (g.set.P : Nat), .int .i64 (g.set.M : Nat), .int .u32 (g.set.S : Nat), .slice none 0 0] from S11.out)
  clear S0 S1 S2 S3 S4 S5 S6 S7 S8 S9 S10 S11
  have hz5 : p4 + 1 ≤ V5.heap.size := HS.out.lt
  go_wp2
  go_loopw [11, 71] (fun tv iv wr => ∃ (k : Nat) (v : Value), k ≤ g.rows.length ∧ iv = .int .u32 k ∧ tv = .int .i64 ((bitsB (g.rows.take k)).length : Nat) ∧ RdSt w wr gb p1 p2 p3 p4 [] (rowsB (g.rows.drop k) (edgesB (g.rows.take k)).length) (endsB (g.rows.drop k) (bitsB (g.rows.take k)).length) (bitsB (g.rows.drop k)) #[.int .i64 (g.base : Nat), .int .i64 (g.set.H : Nat), .int .i64 (g.set.P : Nat), .int .i64 (g.set.M : Nat), .int .u32 (g.set.S : Nat), v] ∧ RowsOwn wr (p4 + 1) wr.heap.size v (g.rows.take k)) (fun _ iv _ => g.rows.length - (intOf iv).toNat)
  case atStart => exact ⟨0, .slice none 0 0, Nat.zero_le _, rfl, rfl, HS.out, RowsOwn.nil _ _ _⟩
  case round =>
    obtain ⟨k, v, hk, rfl, rfl, hst, hro⟩ := hrel
    have HSt := Lib.hid hst; have HRo := Lib.hid hro
    clear hst hro
    by_cases hlt : k < g.rows.length
    · have hgr := HG.out.rows k hlt
      have HDr := Lib.hid (rows_drop hlt (edgesB (g.rows.take k)).length)
      have HDe := Lib.hid (ends_drop hlt (bitsB (g.rows.take k)).length)
      have HDb := Lib.hid (bits_drop hlt)
      have HEt := Lib.hid (edges_take hlt)
      have HBt := Lib.hid (bits_take hlt)
      have HTk := Lib.hid (List.take_succ_eq_append_getElem hlt)
      have HES := Lib.hid (edges_split hlt)
      have hbl := bits_le g.rows (k + 1)
      have hbl2 := HG.out.bits
      have hel := edges_lt g.rows k
      have hel2 := edges_le g.rows HG.out.par
      have he4 := edges_four (g.rows.take k)
      obtain ⟨x, hx⟩ : ∃ x, g.rows[k] = x := ⟨_, rfl⟩
      rw [hx] at hgr HDr HDe HDb HEt HBt HTk HES
      have hfew16 := hgr.few
      have hlow : ∀ y ∈ x.parents, y < 1000000 := fun y hy => by have := hgr.low y hy; omega
      have htr : x.tree < 65536 := hgr.tree
      have hge : x.gen < 65536 := by have := hgr.gen; omega
      have hst8 : x.st < 256 := by rcases hgr.fil with ⟨h, _⟩ | ⟨h, _⟩ <;> omega
      have hbs := congrArg List.length HBt.out
      rw [List.length_append, size_list] at hbs
      obtain ⟨e0, he0⟩ : ∃ e, (edgesB (g.rows.take k)).length = e := ⟨_, rfl⟩
      obtain ⟨b0, hb0⟩ : ∃ b, (bitsB (g.rows.take k)).length = b := ⟨_, rfl⟩
      have HE0 := Lib.hid he0; have HB0 := Lib.hid hb0
      rw [he0] at HDr hel he4
      rw [hb0] at HDe hbs
      rw [hb0]
      have hb1 : b0 + x.bits.size ≤ 3000000 := by omega
      have hel3 : e0 ≤ 4000000 := by omega
      have hfst : firstP x < 4294967296 := first_lt x hlow
      have hsnd : secondP x e0 < 4294967296 := second_lt x e0 hlow (by omega)
      have HPa := Lib.hid (fun W => ParSaid.sl (HPar x e0 ⟨(edgesB g.rows).toArray⟩ (edgesB (g.rows.take k)) (edgesB (g.rows.drop (k + 1))) hfew16 hlow he4 hel3 (by show (edgesB g.rows).toArray.toList = _; rw [HES.out]) he0 (by rw [sz]; omega) W))
      obtain ⟨f0, hf0⟩ : ∃ f, firstP x = f := ⟨_, rfl⟩
      obtain ⟨s0, hs0⟩ : ∃ s, secondP x e0 = s := ⟨_, rfl⟩
      rw [hf0, hs0] at HPa HDr
      rw [hf0] at hfst
      rw [hs0] at hsnd
      have hstq := HSt.out
      rw [HE0.out, HB0.out, HDr.out, HDe.out, HDb.out] at hstq
      obtain ⟨q, hq⟩ : ∃ q, wr.heap.size = q := ⟨_, rfl⟩
      obtain ⟨U0, hU0⟩ : ∃ U, wr.alloc (.cells #[.slice none 0 0, .int .i64 0, .int .i64 0, .int .i64 0, .string ⟨#[]⟩] 188) = U := ⟨_, rfl⟩
      have R0 := Lib.hid (RowSt.start hstq HRo.out #[.slice none 0 0, .int .i64 0, .int .i64 0, .int .i64 0, .string ⟨#[]⟩])
      rw [hU0, hq] at R0
      have HU0 := Lib.hid hU0; have HQ := Lib.hid hq
      have hsum : wrap64 (((b0 + x.bits.size : Nat) : Int) - (b0 : Int)) = (x.bits.size : Int) := by rw [show (((b0 + x.bits.size : Nat) : Int) - (b0 : Int)) = (x.bits.size : Int) from by omega]; exact IntWalk.wrap64_in _ (by omega)
      clear hx hU0 hq hstq he0 hb0 hf0 hs0 HDr HDe HDb he4 hel hel2 hbl hbl2 hlow hgr hbs
      go_wp2_with fail
      rw [HQ.out, HU0.out]
      (with_reducible refine (rpU32 _ R0.out.st.a2 (by omega)).mono ?_)
      rintro e a0 ⟨rfl, hk, hr⟩
      have R1 := Lib.hid (R0.out.rd2 hk hr)
      clear hk hr
      go_wp2_with fail
      (with_reducible refine (mU32 _ a0).mono ?_)
      rintro e m ⟨rfl, rfl⟩
      have cc : a0.cell? ⟨q, 1, none⟩ = some (.int .i64 0) := (R1.out.cell 1).1
      have cf := (R1.out.cell 1).2
      obtain ⟨b0w, hV⟩ : ∃ V, a0.setCell ⟨q, 1, none⟩ (.int .i64 (x.tree : Nat)) = V := ⟨_, rfl⟩
      have R2 := Lib.hid (show RowSt w b0w gb p1 p2 p3 p4 _ _ _ _ _ q _ _ _ _ _ _ from by rw [← hV]; exact R1.out.put 1 _)
      have HV := Lib.hid hV
      clear hV
      go_upto_region 15 with (fail)
      rw [HV.out]
      clear cc cf HV
      go_wp2_with fail
      (with_reducible refine (rpU32 _ R2.out.st.a2 hfst).mono ?_)
      rintro e a1 ⟨rfl, hk, hr⟩
      have R3 := Lib.hid (R2.out.rd2 hk hr)
      clear hk hr
      go_wp2_with fail
      (with_reducible refine (mU32 _ a1).mono ?_)
      rintro e m ⟨rfl, rfl⟩
      go_wp2_with fail
      (with_reducible refine (rpU32 _ R3.out.st.a2 hsnd).mono ?_)
      rintro e a2 ⟨rfl, hk, hr⟩
      have R4 := Lib.hid (R3.out.rd2 hk hr)
      clear hk hr
      go_wp2_with fail
      (with_reducible refine (mU32 _ a2).mono ?_)
      rintro e m ⟨rfl, rfl⟩
      go_wp2_with fail
      (with_reducible refine (HPa.out a2).mono ?_)
      rintro e a3 ⟨pa, pcc, rfl, hpo, hb⟩
      have R5 := Lib.hid (R4.out.par hb hpo)
      clear hb hpo
      have cc : a3.cell? ⟨q, 0, none⟩ = some (.slice none 0 0) := (R5.out.cell 0).1
      have cf := (R5.out.cell 0).2
      obtain ⟨b3, hV⟩ : ∃ V, a3.setCell ⟨q, 0, none⟩ (.slice pa x.parents.length pcc) = V := ⟨_, rfl⟩
      have R6 := Lib.hid (show RowSt w b3 gb p1 p2 p3 p4 _ _ _ _ _ q _ _ _ _ _ _ from by rw [← hV]; exact R5.out.put 0 _)
      have HV := Lib.hid hV
      clear hV
      go_upto_region 16 with (fail)
      rw [HV.out]
      clear cc cf HV
      go_wp2_with fail
      (with_reducible refine (rpU16 _ R6.out.st.a2 hge).mono ?_)
      rintro e a4 ⟨rfl, hk, hr⟩
      have R7 := Lib.hid (R6.out.rd2 hk hr)
      clear hk hr
      go_wp2_with fail
      (with_reducible refine (mU16 _ a4).mono ?_)
      rintro e m ⟨rfl, rfl⟩
      have cc : a4.cell? ⟨q, 2, none⟩ = some (.int .i64 0) := (R7.out.cell 2).1
      have cf := (R7.out.cell 2).2
      obtain ⟨b4, hV⟩ : ∃ V, a4.setCell ⟨q, 2, none⟩ (.int .i64 (x.gen : Nat)) = V := ⟨_, rfl⟩
      have R8 := Lib.hid (show RowSt w b4 gb p1 p2 p3 p4 _ _ _ _ _ q _ _ _ _ _ _ from by rw [← hV]; exact R7.out.put 2 _)
      have HV := Lib.hid hV
      clear hV
      go_upto_region 17 with (fail)
      rw [HV.out]
      clear cc cf HV
      go_wp2_with fail
      (with_reducible refine (rpU8 _ R8.out.st.a2 hst8).mono ?_)
      rintro e a5 ⟨rfl, hk, hr⟩
      have R9 := Lib.hid (R8.out.rd2 hk hr)
      clear hk hr
      go_wp2_with fail
      (with_reducible refine (mU8 _ a5).mono ?_)
      rintro e m ⟨rfl, rfl⟩
      have cc : a5.cell? ⟨q, 3, none⟩ = some (.int .i64 0) := (R9.out.cell 3).1
      have cf := (R9.out.cell 3).2
      obtain ⟨b5, hV⟩ : ∃ V, a5.setCell ⟨q, 3, none⟩ (.int .i64 (x.st : Nat)) = V := ⟨_, rfl⟩
      have R10 := Lib.hid (show RowSt w b5 gb p1 p2 p3 p4 _ _ _ _ _ q _ _ _ _ _ _ from by rw [← hV]; exact R9.out.put 3 _)
      have HV := Lib.hid hV
      clear hV
      go_upto_region 18 with (fail)
      rw [HV.out]
      clear cc cf HV
      go_wp2_with fail
      (with_reducible refine (rpU32 _ R10.out.st.a3 (by omega)).mono ?_)
      rintro e a6 ⟨rfl, hk, hr⟩
      have R11 := Lib.hid (R10.out.rd3 hk hr)
      clear hk hr
      go_wp2_with fail
      (with_reducible refine (mU32 _ a6).mono ?_)
      rintro e m ⟨rfl, rfl⟩
      have HRw := Lib.hid (fun n hn => rpRaw n x.bits.data.toList hn (by rw [size_list]; omega) R11.out.st.a4)
      simp only [ba_back] at HRw
      go_wp2_with fail
      (with_reducible refine (HRw.out _ ?hraw).mono ?_)
      case hraw => rw [size_list]; omega
      rintro e a7 ⟨rfl, hk, hr⟩
      have R12 := Lib.hid (R11.out.rd4 hk hr)
      clear hk hr HRw
      go_wp2_with fail
      (with_reducible refine (mStr _ a7).mono ?_)
      rintro e m ⟨rfl, rfl⟩
      have cc : a7.cell? ⟨q, 4, none⟩ = some (.string ⟨#[]⟩) := (R12.out.cell 4).1
      have cf := (R12.out.cell 4).2
      obtain ⟨b7, hV⟩ : ∃ V, a7.setCell ⟨q, 4, none⟩ (.string x.bits) = V := ⟨_, rfl⟩
      have R13 := Lib.hid (show RowSt w b7 gb p1 p2 p3 p4 _ _ _ _ _ q _ _ #[.slice pa x.parents.length pcc, .int .i64 (x.tree : Nat), .int .i64 (x.gen : Nat), .int .i64 (x.st : Nat), .string x.bits] _ _ _ from by rw [← hV]; exact R12.out.put 4 _)
      have HV := Lib.hid hV
      clear hV
      go_upto_region 20 with (fail)
      rw [HV.out]
      clear cc cf HV
      have d0 := (R13.out.cell 0).1; have d1 := (R13.out.cell 1).1; have d2 := (R13.out.cell 2).1; have d3 := (R13.out.cell 3).1; have d4 := (R13.out.cell 4).1
      simp only [List.getElem?_toArray, List.getElem?_cons_zero, List.getElem?_cons_succ] at d0 d1 d2 d3 d4
      have d5 := (R13.out.st.cell 5).1
      simp only [List.getElem?_toArray, List.getElem?_cons_zero, List.getElem?_cons_succ] at d5
      have HOk := Lib.hid (R13.out.ro.row (k := k) (by rw [List.length_take]; omega))
      have HEL := Lib.hid (show (edgesB (g.rows.take (k + 1))).length = e0 + (edgeR x).length by rw [HEt.out, List.length_append, HE0.out])
      have HBL := Lib.hid (show (bitsB (g.rows.take (k + 1))).length = b0 + x.bits.size by rw [HBt.out, List.length_append, size_list, HB0.out])
      have hkt : k = (g.rows.take k).length := by rw [List.length_take]; omega
      have HKT := Lib.hid hkt
      have hbz := R13.out.st.lt
      clear hkt
      obtain ⟨i0, hi, hz0, hz1, hz2⟩ := info_parts infoRow
      go_wp2_with (at_builtin; refine wpList_append_lies _ rfl (.tmp 126) (.tmp 128) 99 rfl (p4 + 1) 188 i0 (.agg #[.slice none 0 0, .int .i64 0, .int .i64 0, .int .i64 0, .string ⟨#[]⟩]) 5 64 Tryz.underlying99 hi hz0 hz1 hz2 rfl (by decide) v k _ rfl (HOk.out.alloc _) _ 1 1 [.slice pa x.parents.length pcc, .int .i64 x.tree, .int .i64 x.gen, .int .i64 x.st, .string x.bits] rfl rfl (cells_new b7 [.slice pa x.parents.length pcc, .int .i64 x.tree, .int .i64 x.gen, .int .i64 x.st, .string x.bits] _ rfl) (by intro u hu; simp at hu; rcases hu with rfl | rfl | rfl | rfl | rfl <;> rfl) (by decide) (by unfold maxLen; omega) (by omega) (by simp; omega) _ rfl ?_; intro g1 cp1 w9 hown hg hat hlt9; have HDone := Lib.hid (R13.out.done (r := x) hown HKT.out hg hat hlt9); have hst9 := R13.out.st.upd (((Upd.refl (fun i => p4 < i) b7).alloc _).grown hg (fun i hi => .inl (by have := (HOk.out.lt i hi).1; omega))) (fun _ e => e); have c9 : w9.cell? ⟨gb, 5, none⟩ = some v := (hst9.cell 5).1; have f9 := (hst9.cell 5).2; clear hown hg hat hst9 hi hz0 hz1 hz2)
      go_roundw
      case rel => exact ⟨k + 1, _, by omega, by go_num, by rw [HBL.out]; go_num, by rw [HEL.out, HBL.out]; exact HDone.out.1, by rw [HTk.out]; exact HDone.out.2⟩
      case measure => simp [intOf]; omega
    · have hkl : k = g.rows.length := by omega
      subst hkl
      have hst := HSt.out
      have hv0 := HRo.out
      rw [List.take_of_length_le (Nat.le_refl _)] at hv0
      obtain ⟨va, vc, hvv, _⟩ := hv0.at
      subst hvv
      have HRe := Lib.hid hv0
      have b0c := (hst.cell 0).1; have b1c := (hst.cell 1).1; have b2c := (hst.cell 2).1; have b3c := (hst.cell 3).1; have b4c := (hst.cell 4).1; have b5c := (hst.cell 5).1
      simp only [List.getElem?_toArray, List.getElem?_cons_zero, List.getElem?_cons_succ] at b0c b1c b2c b3c b4c b5c
      obtain ⟨gz, hz, hz6⟩ := hst.res
      obtain ⟨z0, z1, z2, z3, z4, z5, rfl⟩ := arr6 gz hz6
      have e0 : wr.cell? ⟨w.heap.size, 0, none⟩ = some z0 := by rw [cell_of_row _ _ _ _ _ _ hz]; rfl
      have e1 : wr.cell? ⟨w.heap.size, 1, none⟩ = some z1 := by rw [cell_of_row _ _ _ _ _ _ hz]; rfl
      have e2 : wr.cell? ⟨w.heap.size, 2, none⟩ = some z2 := by rw [cell_of_row _ _ _ _ _ _ hz]; rfl
      have e3 : wr.cell? ⟨w.heap.size, 3, none⟩ = some z3 := by rw [cell_of_row _ _ _ _ _ _ hz]; rfl
      have e4 : wr.cell? ⟨w.heap.size, 4, none⟩ = some z4 := by rw [cell_of_row _ _ _ _ _ _ hz]; rfl
      have e5 : wr.cell? ⟨w.heap.size, 5, none⟩ = some z5 := by rw [cell_of_row _ _ _ _ _ _ hz]; rfl
      have f0 := frozen_of_row wr w.heap.size 0 _ _ hz; have f1 := frozen_of_row wr w.heap.size 1 _ _ hz; have f2 := frozen_of_row wr w.heap.size 2 _ _ hz; have f3 := frozen_of_row wr w.heap.size 3 _ _ hz; have f4 := frozen_of_row wr w.heap.size 4 _ _ hz; have f5 := frozen_of_row wr w.heap.size 5 _ _ hz
      have HFin := Lib.hid (read_end hst HRe.out hz)
      clear hst hv0 hz hz6
      go_wp2
      obtain ⟨g1, g2, g3⟩ := HFin.out (.int .i64 (g.base : Nat)) (.int .i64 (g.set.H : Nat)) (.int .i64 (g.set.P : Nat)) (.int .i64 (g.set.M : Nat)) (.int .u32 (g.set.S : Nat)) (.slice va g.rows.length vc)
      unfold six at g1 g2 g3
      have k0 := cell_of_row _ _ 0 _ _ _ g1; have k1 := cell_of_row _ _ 1 _ _ _ g1; have k2 := cell_of_row _ _ 2 _ _ _ g1; have k3 := cell_of_row _ _ 3 _ _ _ g1; have k4 := cell_of_row _ _ 4 _ _ _ g1; have k5 := cell_of_row _ _ 5 _ _ _ g1
      refine bodyPost_ret (v := .agg #[.int .i64 (g.base : Nat), .int .i64 (g.set.H : Nat), .int .i64 (g.set.P : Nat), .int .i64 (g.set.M : Nat), .int .u32 (g.set.S : Nat), .slice va g.rows.length vc]) (by simp [results, Tryz.results195, go_sem, k0, k1, k2, k3, k4, k5]) rfl ⟨_, rfl, g2, g3⟩
end Go.Proofs.YtbhfbdcmamodcaaGreatDoor
namespace Go.Proofs.YtbhfbdcmamodcaaGreatDoor
open Go.RowKit PackMath SumMath
theorem gIdle (p q : Addr) (w : World) : CallsD Tryz.prog 194 #[.pointer (some p), .pointer (some q)] .returning w fun e u' w' => e = .returned (.tuple #[]) ∧ u' = .returning ∧ w' = w := by
  refine callsD_of_wpS Tryz.func194 rfl fun c₀ cs hu => ?_
  apply wpS_seq
  apply wpS_region
  simp [wpOpsS, go_sem, recoverD, hu, Tryz.ntmps194, Exit.thenS]
  apply wpS_seq
  apply wpS_region
  simp [wpOpsS, go_sem, Exit.thenS]
  refine wpS_cond (t := false) (by simp [Act.eval, Array.replicate]) ?_
  simp only [Bool.false_eq_true, if_false]
  refine wpS_of_wp (wp_skip ?_)
  cases c₀
  simp_all [bodyPostS, results, Tryz.results194]
set_option maxHeartbeats 4000000 in
set_option maxRecDepth 100000 in
theorem gDecode (HPar : ParOk) (g : GraphP) (hg : GoodGraph g) (s : ByteArray) (hs : s.data.toList = graphB g) (w : World) :
    Calls Tryz.prog 137 #[.string s] w fun e w' => ∃ v, e = .returned (.tuple #[.agg #[.int .i64 (g.base : Nat), .int .i64 (g.set.H : Nat), .int .i64 (g.set.P : Nat), .int .i64 (g.set.M : Nat), .int .u32 (g.set.S : Nat), v], .int .i64 0]) ∧ RowsOwn w' w.heap.size w'.heap.size v g.rows ∧ Below w.heap.size w w' := by
  have hse : s = ⟨(graphB g).toArray⟩ := by rw [← hs]
  subst hse
  have hmf : ∀ (fn : Fn) (first cap : Array Value) (w : World), (Instr.makeFunc fn first cap).run Tryz.prog w = .ok (.func fn first cap) w := fun _ _ _ _ => rfl
  have HPs := Lib.hid (fun W => kParse (chunksG g) (chunksG_rising g) (by show 1 ≤ 5; decide) (by show 5 ≤ 16; decide) (chunksG_ids g) (by have := hg.small; show 10 + 8 * 5 + _ ≤ _; omega) _ hs W)
  have HRd := Lib.hid (fun W a c hW => gRead HPar g hg a c W hW)
  have HEn := Lib.hid (fun W a c (hc : g.rows.length ≤ c) (hcm : c ≤ maxLen) hW => gEncode g hg a c hc hcm W hW)
  obtain ⟨W1, hW1⟩ : ∃ W1, (w.alloc (.cells #[.int .i64 0, .int .i64 0, .int .i64 0, .int .i64 0, .int .u32 0, .slice none 0 0] 103)).alloc (.cells #[.int .i64 0] 26) = W1 := ⟨_, rfl⟩
  have HX1 := Lib.hid (show W1.heap[w.heap.size]? = some (.cells gz0 103 (0, 0)) ∧ W1.heap[w.heap.size + 1]? = some (.cells #[.int .i64 0] 26 (0, 0)) ∧ W1.heap.size = w.heap.size + 2 by
    rw [← hW1]
    refine ⟨?_, ?_, by simp⟩
    · rw [Below.heap_alloc _ _ _ (by simp)]; exact heap_alloc_new w _
    · have := heap_alloc_new (w.alloc (.cells gz0 103)) (.cells #[.int .i64 0] 26)
      rwa [show (w.alloc (.cells gz0 103)).heap.size = w.heap.size + 1 by simp] at this)
  have HB1 := Lib.hid (show Below w.heap.size w W1 by rw [← hW1]; exact bl_alloc (bl_alloc (Below.refl _ w) _) _)
  have HW1 := Lib.hid hW1
  clear hW1 hg hs
  go_enter_defers Tryz.func137, Tryz.ntmps137
  go_wp2_with fail
  rw [HW1.out]
  (with_reducible refine (HPs.out W1).mono ?_)
  rintro e w2 ⟨v, rfl, ho, hb⟩
  obtain ⟨x1, x2, x3⟩ := HX1.out
  have HX2 := Lib.hid (show w2.heap[w.heap.size]? = some (.cells gz0 103 (0, 0)) ∧ w2.heap[w.heap.size + 1]? = some (.cells #[.int .i64 0] 26 (0, 0)) ∧ w.heap.size + 2 ≤ w2.heap.size from ⟨by rw [hb.block _ (by omega)]; exact x1, by rw [hb.block _ (by omega)]; exact x2, by have := hb.size; omega⟩)
  have HB2 := Lib.hid (bl_trans HB1.out hb)
  obtain ⟨va, vc, hv, hcc, _⟩ := ho.sl
  have HC2 := Lib.hid hcc
  have HO2 := Lib.hid ho
  clear hcc ho hb x1 x2 x3
  subst hv
  have cc : w2.cell? ⟨w.heap.size + 1, 0, none⟩ = some (.int .i64 0) := by rw [cell_of_row _ _ _ _ _ _ HX2.out.2.1]; rfl
  have cf := frozen_of_row w2 (w.heap.size + 1) 0 _ _ HX2.out.2.1
  obtain ⟨W3, hW3⟩ : ∃ V, w2.setCell ⟨w.heap.size + 1, 0, none⟩ (.int .i64 0) = V := ⟨_, rfl⟩
  have HU3 := Lib.hid (show Upd (fun k => k = w.heap.size + 1) w2 W3 by rw [← hW3]; exact (Upd.refl (fun k => k = w.heap.size + 1) w2).set _ 0 _ (.inl rfl))
  have HX3 := Lib.hid (show W3.heap[w.heap.size]? = some (.cells gz0 103 (0, 0)) ∧ W3.heap[w.heap.size + 1]? = some (.cells #[.int .i64 0] 26 (0, 0)) ∧ w.heap.size + 2 ≤ W3.heap.size from ⟨by rw [HU3.out.block _ (by have := HX2.out.2.2; omega) (by omega)]; exact HX2.out.1, by rw [← hW3]; exact heap_setCell_same w2 (w.heap.size + 1) 0 _ _ _ HX2.out.2.1, by have := HX2.out.2.2; have := HU3.out.size; omega⟩)
  have HB3 := Lib.hid (show Below w.heap.size w W3 from HB2.out.trans (HU3.out.below (fun k e => by have : k = w.heap.size + 1 := e; omega) HB2.out.size))
  have HC3 := Lib.hid (show CellsAt W3 va ((chunksG g).flatMap chunkV) from by
    have h3 := HO2.out.stays (x := W3) (fun gg e => by
      obtain ⟨q1, q2⟩ := HO2.out.lt gg e
      have q3 := HX1.out.2.2
      exact HU3.out.block _ q2 (by show ¬ (gg = w.heap.size + 1); omega))
    obtain ⟨va', vc', hv', hcc', _⟩ := h3.sl
    cases hv'
    exact hcc')
  have HW3 := Lib.hid hW3
  have c3 : W3.cell? ⟨w.heap.size + 1, 0, none⟩ = some (.int .i64 0) := by rw [cell_of_row _ _ _ _ _ _ HX3.out.2.1]; rfl
  clear hW3
  rw [show (chunksG g).length = 5 from rfl]
  go_upto_region 2 with (fail)
  rw [HW3.out]
  clear cc cf HW3
  go_wp2_with fail
  (with_reducible refine (HRd.out W3 va vc HC3.out).mono ?_)
  rintro e w4 ⟨v, rfl, ho4, hb4⟩
  obtain ⟨ra, rc, hv, hra, hrc, hrm⟩ := ho4.at
  subst hv
  have HX4 := Lib.hid (show w4.heap[w.heap.size]? = some (.cells gz0 103 (0, 0)) ∧ w4.heap[w.heap.size + 1]? = some (.cells #[.int .i64 0] 26 (0, 0)) ∧ w.heap.size + 2 ≤ w4.heap.size from ⟨by rw [hb4.block _ (by have := HX3.out.2.2; omega)]; exact HX3.out.1, by rw [hb4.block _ (by have := HX3.out.2.2; omega)]; exact HX3.out.2.1, by have := hb4.size; have := HX3.out.2.2; omega⟩)
  have HB4 := Lib.hid (bl_trans HB3.out hb4)
  have HO4 := Lib.hid ho4
  have HRA := Lib.hid hra
  have HRc := Lib.hid hrc; have HRm := Lib.hid hrm
  clear hra ho4 hb4
  have e0 : w4.cell? ⟨w.heap.size, 0, none⟩ = some (.int .i64 0) := by rw [cell_of_row _ _ _ _ _ _ HX4.out.1]; rfl
  have e1 : w4.cell? ⟨w.heap.size, 1, none⟩ = some (.int .i64 0) := by rw [cell_of_row _ _ _ _ _ _ HX4.out.1]; rfl
  have e2 : w4.cell? ⟨w.heap.size, 2, none⟩ = some (.int .i64 0) := by rw [cell_of_row _ _ _ _ _ _ HX4.out.1]; rfl
  have e3 : w4.cell? ⟨w.heap.size, 3, none⟩ = some (.int .i64 0) := by rw [cell_of_row _ _ _ _ _ _ HX4.out.1]; rfl
  have e4 : w4.cell? ⟨w.heap.size, 4, none⟩ = some (.int .u32 0) := by rw [cell_of_row _ _ _ _ _ _ HX4.out.1]; rfl
  have e5 : w4.cell? ⟨w.heap.size, 5, none⟩ = some (.slice none 0 0) := by rw [cell_of_row _ _ _ _ _ _ HX4.out.1]; rfl
  have f0 := frozen_of_row w4 w.heap.size 0 _ _ HX4.out.1; have f1 := frozen_of_row w4 w.heap.size 1 _ _ HX4.out.1; have f2 := frozen_of_row w4 w.heap.size 2 _ _ HX4.out.1; have f3 := frozen_of_row w4 w.heap.size 3 _ _ HX4.out.1; have f4 := frozen_of_row w4 w.heap.size 4 _ _ HX4.out.1; have f5 := frozen_of_row w4 w.heap.size 5 _ _ HX4.out.1
  obtain ⟨W5, hW5⟩ : ∃ V, six w4 w.heap.size (.int .i64 (g.base : Nat)) (.int .i64 (g.set.H : Nat)) (.int .i64 (g.set.P : Nat)) (.int .i64 (g.set.M : Nat)) (.int .u32 (g.set.S : Nat)) (.slice ra g.rows.length rc) = V := ⟨_, rfl⟩
  have HU5 := Lib.hid (show Upd (· = w.heap.size) w4 W5 from by rw [← hW5]; exact six_upd w4 w.heap.size _ _ _ _ _ _)
  have HG5 := Lib.hid (show W5.heap[w.heap.size]? = some (.cells #[.int .i64 (g.base : Nat), .int .i64 (g.set.H : Nat), .int .i64 (g.set.P : Nat), .int .i64 (g.set.M : Nat), .int .u32 (g.set.S : Nat), .slice ra g.rows.length rc] 103 (0, 0)) from by rw [← hW5]; exact six_row HX4.out.1 _ _ _ _ _ _)
  have HE5 := Lib.hid (show W5.heap[w.heap.size + 1]? = some (.cells #[.int .i64 0] 26 (0, 0)) ∧ w.heap.size + 2 ≤ W5.heap.size from ⟨by rw [HU5.out.block _ (by have := HX4.out.2.2; omega) (by show ¬ (w.heap.size + 1 = w.heap.size); omega)]; exact HX4.out.2.1, by have := HX4.out.2.2; have := HU5.out.size; omega⟩)
  have HB5 := Lib.hid (show Below w.heap.size w W5 from HB4.out.trans (HU5.out.below (fun k e => by have : k = w.heap.size := e; omega) HB4.out.size))
  have HO5 := Lib.hid (show RowsOwn W5 W3.heap.size W5.heap.size (.slice ra g.rows.length rc) g.rows from (HO4.out.upd HU5.out (fun k e => .inl (by have : k = w.heap.size := e; have := HX3.out.2.2; omega))).mono HU5.out.size)
  have HA5 := Lib.hid (show RowsAt W5 ra g.rows from by
    obtain ⟨a', c', h1, h2, _⟩ := HO5.out.at
    cases h1
    exact h2)
  unfold six at hW5
  have HW5 := Lib.hid hW5
  clear hW5
  go_upto_region 6 with (fail)
  rw [HW5.out]
  clear e0 e1 e2 e3 e4 e5 f0 f1 f2 f3 f4 f5 HW5
  have k0 := cell_of_row _ _ 0 _ _ _ HG5.out; have k1 := cell_of_row _ _ 1 _ _ _ HG5.out; have k2 := cell_of_row _ _ 2 _ _ _ HG5.out; have k3 := cell_of_row _ _ 3 _ _ _ HG5.out; have k4 := cell_of_row _ _ 4 _ _ _ HG5.out; have k5 := cell_of_row _ _ 5 _ _ _ HG5.out
  simp only [List.getElem?_toArray, List.getElem?_cons_zero, List.getElem?_cons_succ] at k0 k1 k2 k3 k4 k5
  go_wp2_with fail
  (with_reducible refine (HEn.out W5 ra rc HRc.out HRm.out HA5.out).mono ?_)
  rintro e w6 ⟨rfl, hb6⟩
  have HG6 := Lib.hid (show w6.heap[w.heap.size]? = some (.cells #[.int .i64 (g.base : Nat), .int .i64 (g.set.H : Nat), .int .i64 (g.set.P : Nat), .int .i64 (g.set.M : Nat), .int .u32 (g.set.S : Nat), .slice ra g.rows.length rc] 103 (0, 0)) from by rw [hb6.block _ (by have := HE5.out.2; omega)]; exact HG5.out)
  have HE6 := Lib.hid (show w6.heap[w.heap.size + 1]? = some (.cells #[.int .i64 0] 26 (0, 0)) ∧ w.heap.size + 2 ≤ w6.heap.size from ⟨by rw [hb6.block _ (by have := HE5.out.2; omega)]; exact HE5.out.1, by have := HE5.out.2; have := hb6.size; omega⟩)
  have HB6 := Lib.hid (bl_trans HB5.out hb6)
  have HO6 := Lib.hid (show RowsOwn w6 W3.heap.size w6.heap.size (.slice ra g.rows.length rc) g.rows from (HO5.out.upd (Upd.of (F := fun _ => False) hb6) (fun k e => e.elim)).mono hb6.size)
  clear hb6
  have e0 := cell_of_row _ _ 0 _ _ _ HG6.out; have e1 := cell_of_row _ _ 1 _ _ _ HG6.out; have e2 := cell_of_row _ _ 2 _ _ _ HG6.out; have e3 := cell_of_row _ _ 3 _ _ _ HG6.out; have e4 := cell_of_row _ _ 4 _ _ _ HG6.out; have e5 := cell_of_row _ _ 5 _ _ _ HG6.out
  simp only [List.getElem?_toArray, List.getElem?_cons_zero, List.getElem?_cons_succ] at e0 e1 e2 e3 e4 e5
  have f0 := frozen_of_row w6 w.heap.size 0 _ _ HG6.out; have f1 := frozen_of_row w6 w.heap.size 1 _ _ HG6.out; have f2 := frozen_of_row w6 w.heap.size 2 _ _ HG6.out; have f3 := frozen_of_row w6 w.heap.size 3 _ _ HG6.out; have f4 := frozen_of_row w6 w.heap.size 4 _ _ HG6.out; have f5 := frozen_of_row w6 w.heap.size 5 _ _ HG6.out
  have x0 : w6.cell? ⟨w.heap.size + 1, 0, none⟩ = some (.int .i64 0) := by rw [cell_of_row _ _ _ _ _ _ HE6.out.1]; rfl
  have xf := frozen_of_row w6 (w.heap.size + 1) 0 _ _ HE6.out.1
  obtain ⟨W7, hW7⟩ : ∃ V, (six w6 w.heap.size (.int .i64 (g.base : Nat)) (.int .i64 (g.set.H : Nat)) (.int .i64 (g.set.P : Nat)) (.int .i64 (g.set.M : Nat)) (.int .u32 (g.set.S : Nat)) (.slice ra g.rows.length rc)).setCell ⟨w.heap.size + 1, 0, none⟩ (.int .i64 0) = V := ⟨_, rfl⟩
  have hu7 : Upd (· = w.heap.size) w6 (six w6 w.heap.size (.int .i64 (g.base : Nat)) (.int .i64 (g.set.H : Nat)) (.int .i64 (g.set.P : Nat)) (.int .i64 (g.set.M : Nat)) (.int .u32 (g.set.S : Nat)) (.slice ra g.rows.length rc)) := six_upd w6 w.heap.size _ _ _ _ _ _
  have HU7 := Lib.hid (show Upd (fun k => k = w.heap.size ∨ k = w.heap.size + 1) w6 W7 from by
    rw [← hW7]
    exact (hu7.mono (fun i e => .inl e)).set _ 0 _ (.inl (.inr rfl)))
  have HE7 := Lib.hid (show W7.heap[w.heap.size + 1]? = some (.cells #[.int .i64 0] 26 (0, 0)) from by
    rw [← hW7]
    exact heap_setCell_same _ (w.heap.size + 1) 0 _ _ _ (by rw [hu7.block _ (by have := HE6.out.2; omega) (by show ¬ (w.heap.size + 1 = w.heap.size); omega)]; exact HE6.out.1))
  have hg7 := six_row HG6.out (.int .i64 (g.base : Nat)) (.int .i64 (g.set.H : Nat)) (.int .i64 (g.set.P : Nat)) (.int .i64 (g.set.M : Nat)) (.int .u32 (g.set.S : Nat)) (.slice ra g.rows.length rc)
  have HG7 := Lib.hid (show W7.heap[w.heap.size]? = some (.cells #[.int .i64 (g.base : Nat), .int .i64 (g.set.H : Nat), .int .i64 (g.set.P : Nat), .int .i64 (g.set.M : Nat), .int .u32 (g.set.S : Nat), .slice ra g.rows.length rc] 103 (0, 0)) from by
    rw [← hW7]
    rw [((Upd.refl (fun k => k = w.heap.size + 1) (six w6 w.heap.size (.int .i64 (g.base : Nat)) (.int .i64 (g.set.H : Nat)) (.int .i64 (g.set.P : Nat)) (.int .i64 (g.set.M : Nat)) (.int .u32 (g.set.S : Nat)) (.slice ra g.rows.length rc))).set (w.heap.size + 1) 0 (.int .i64 0) (.inl rfl)).block _ (by have := HE6.out.2; have := hu7.size; omega) (by show ¬ (w.heap.size = w.heap.size + 1); omega)]
    exact hg7)
  have HB7 := Lib.hid (show Below w.heap.size w W7 from HB6.out.trans (HU7.out.below (fun k e => by have : k = w.heap.size ∨ k = w.heap.size + 1 := e; omega) HB6.out.size))
  have HO7 := Lib.hid (show RowsOwn W7 w.heap.size W7.heap.size (.slice ra g.rows.length rc) g.rows from ((HO6.out.upd HU7.out (fun k e => .inl (by have : k = w.heap.size ∨ k = w.heap.size + 1 := e; have := HX3.out.2.2; omega))).low (by have := HX3.out.2.2; omega)).mono HU7.out.size)
  clear hu7 hg7
  unfold six at hW7
  have HW7 := Lib.hid hW7
  clear hW7
  go_wp2_with fail
  rw [HW7.out]
  clear e0 e1 e2 e3 e4 e5 f0 f1 f2 f3 f4 f5 x0 xf HW7
  refine leaves_cons (f := 194) (args := #[.pointer (some ⟨w.heap.size, 0, none⟩), .pointer (some ⟨w.heap.size + 1, 0, none⟩)]) (by simp) (by simp [go_sem]) ?_
  refine (gIdle _ _ _).mono ?_
  rintro e u' w'' ⟨rfl, rfl, rfl⟩
  have k0 := cell_of_row _ _ 0 _ _ _ HG7.out; have k1 := cell_of_row _ _ 1 _ _ _ HG7.out; have k2 := cell_of_row _ _ 2 _ _ _ HG7.out; have k3 := cell_of_row _ _ 3 _ _ _ HG7.out; have k4 := cell_of_row _ _ 4 _ _ _ HG7.out; have k5 := cell_of_row _ _ 5 _ _ _ HG7.out; have k6 := cell_of_row _ _ 0 _ _ _ HE7.out
  simp only [List.getElem?_toArray, List.getElem?_cons_zero, List.getElem?_cons_succ] at k0 k1 k2 k3 k4 k5 k6
  simp [Leaves, settle, results, Tryz.results137, go_sem, k0, k1, k2, k3, k4, k5, k6]
  exact ⟨HO7.out, HB7.out⟩
end Go.Proofs.YtbhfbdcmamodcaaGreatDoor
namespace Go.Proofs.YtbhfbdcmamodcaaGreatDoor
open Go.RowKit PackMath SumMath
theorem edgeT_cons (x : Nat) (r : List Nat) (h : r ≠ []) : edgeT (x :: r) = be x 4 ++ edgeT r := by
  cases r with
  | nil => exact absurd rfl h
  | cons y t => rfl
def Marked (y q : Nat) : Prop := y = 2147483648 + q
theorem Marked.lt {y q : Nat} (h : Marked y q) : decide ((y : Int) < 2147483648) = false := by unfold Marked at h; simp; omega
theorem Marked.sub {y q : Nat} (h : Marked y q) (hq : q ≤ 1000000) : ((y : Int) - 2147483648) % 4294967296 = (q : Int) := by unfold Marked at h; omega
def Last (z x : Nat) : Prop := z = x + 2147483648
theorem Last.mk (x : Nat) : Last (x + 2147483648) x := rfl
theorem Last.lt {z x : Nat} (h : Last z x) (hx : x < 1000000) : z < 4294967296 := by unfold Last at h; omega
theorem Last.not {z x : Nat} (h : Last z x) (hx : x < 1000000) : bits .andNot .u32 (z : Int) 2147483648 = (x : Int) := by unfold Last at h; subst h; exact noMark2 x (by omega)
theorem Last.ge {z x : Nat} (h : Last z x) : decide ((z : Int) ≥ 2147483648) = true := by unfold Last at h; simp; omega
theorem Last.ge' {z x : Nat} (h : Last z x) : decide ((2147483648 : Int) ≤ (z : Int)) = true := by unfold Last at h; simp; omega
theorem low_not {x : Nat} (hx : x < 1000000) : bits .andNot .u32 (x : Int) 2147483648 = (x : Int) := noMark x (by omega)
theorem low_ge {x : Nat} (hx : x < 1000000) : decide ((2147483648 : Int) ≤ (x : Int)) = false := by simp; omega
def lenV : Value → Nat
  | .slice _ n _ => n
  | _ => 0
set_option maxHeartbeats 4000000 in
set_option maxRecDepth 100000 in
theorem gPar3 (ps : List Nat) (h3 : 2 < ps.length) (h16 : ps.length ≤ 16) (hp : ∀ x ∈ ps, x < 1000000) (x0 : Nat) (hx0 : ps[0]? = some x0) (y q e : Nat) (hq : q ≤ 1000000) (hy : y = 2147483648 + q) (he : e = 4 * q) (s : ByteArray) (pre post : List UInt8) (hs : s.data.toList = pre ++ (edgeT ps.tail ++ post)) (hpre : pre.length = e) (hsz : s.size ≤ 10000000) (w : World) :
    Calls Tryz.prog 228 #[.int .u32 x0, .int .u32 y, .string s] w (ParSaid ps w) := by
  obtain ⟨j0, hj, hy0, hy1, hy2⟩ := info_parts infoInt'
  have hb0 : x0 < 1000000 := hp x0 (List.mem_of_getElem? hx0)
  have hd : ((x0 : Int) == 4294967295) = false := by simp; omega
  have hd1 : ((y : Int) == 4294967295) = false := by simp; omega
  have HM : Marked y q := hy
  have hle : e ≤ s.size := by rw [← size_list, hs, List.length_append]; omega
  have hext : (s.extract e s.size).data.toList = edgeT ps.tail ++ post := by
    have h9 := ext_list2 s e s.size (pre := pre) (mid := edgeT ps.tail ++ post) (post := []) (by rw [hs]; simp) hpre (by rw [← size_list, hs, List.length_append, hpre])
    exact h9
  have HR1 := Lib.hid (fun W => rpNew W (s.extract e s.size) (by rw [ByteArray.size_extract]; omega))
  rw [hext] at HR1
  have h4q : (4 * (q : Int)) = (e : Int) := by omega
  have H4Q := Lib.hid h4q
  have HP := Lib.hid hp; have HX0 := Lib.hid hx0
  clear hs hpre hext hp hx0 hy he h4q hsz
  go_enter Tryz.func228, Tryz.ntmps228
  go_upto_region 6 with (at_builtin; refine wpList_append_lies _ rfl (.tmp 13) (.tmp 16) 42 rfl w.heap.size 3 j0 (.int .i64 0) 1 8 Tryz.underlying42 hj hy0 hy1 hy2 rfl (by decide) (.slice none 0 0) 0 [] rfl (World.ownsRow_nil _ _ _ _) _ 1 1 [.int .i64 x0] rfl rfl (cells_new w [.int .i64 x0] _ rfl) (one_nat _) (by decide) (by decide) (by decide) (by simp) _ rfl ?_; intro g cp w1 hown hg hat hlt; have HO := Lib.hid hown; have HB := Lib.hid (bel_grown (Below.refl _ w) (Nat.le_refl _) (bl_alloc (Below.refl _ w) _) hg (fun i hi => by simp [Value.ownBlock] at hi)); clear hown hg hat)
  have hd2 := HM.lt
  clear hd hd1 hb0
  go_upto_region 8 with (fail)
  clear hd2
  have hs1 := HM.sub hq
  have h4q := H4Q.out
  have hw4 : wrap64 (e : Int) = (e : Int) := IntWalk.wrap64_in _ (by omega)
  go_wp2_with fail
  (with_reducible refine (HR1.out w1).mono ?_)
  rintro e w2 ⟨rfl, hb, hr⟩
  obtain ⟨p, hpp⟩ : ∃ p, w1.heap.size = p := ⟨_, rfl⟩
  rw [hpp] at hr
  rw [hpp]
  have hgp : g < p := by omega
  have hwp : w.heap.size ≤ p := by have := HB.out.size; omega
  have HO2 := Lib.hid ((show OwnX 3 1 natV w1 w.heap.size (.slice (some ⟨g, 0, none⟩) 1 cp) [x0] from HO.out).below hb)
  have HB2 := Lib.hid (bl_trans HB.out hb); have HP2 := Lib.hid hr
  have HT1 := Lib.hid (show ps.take 1 = [x0] by
    have := HX0.out
    match ps, this with
    | y :: r, h => simp at h; subst h; rfl)
  have HT2 := Lib.hid (show ps.tail = ps.drop 1 by rw [List.drop_one])
  clear hb hr hpp hs1 h4q hw4 hlt
  go_wp2
  go_loopw [7, 10] (fun lv _ wr => ∃ (k g cp : Nat), 1 ≤ k ∧ k < ps.length ∧ lv = .slice (some ⟨g, 0, none⟩) k cp ∧ g ≠ p ∧ OwnX 3 1 natV wr w.heap.size (.slice (some ⟨g, 0, none⟩) k cp) (ps.take k) ∧ RP wr p (edgeT (ps.drop k) ++ post) ∧ Below w.heap.size w wr) (fun lv _ _ => ps.length - lenV lv)
  case atStart => exact ⟨1, g, cp, Nat.le_refl _, by omega, rfl, by omega, by rw [HT1.out]; exact HO2.out, by rw [← HT2.out]; exact HP2.out, HB2.out⟩
  case round =>
    obtain ⟨k, g, cp, hk1, hk2, rfl, hgp, hown, hrp, hbel⟩ := hrel
    have HO := Lib.hid hown; have HPr := Lib.hid hrp; have HB := Lib.hid hbel
    have hx1 := HP.out _ (List.getElem_mem hk2)
    have HD := Lib.hid (List.drop_eq_getElem_cons hk2)
    have HTk := Lib.hid (List.take_succ_eq_append_getElem hk2)
    have hTL : (ps.take k).length = k := by rw [List.length_take]; omega
    have HTL := Lib.hid hTL
    clear hown hrp hbel hTL
    obtain ⟨x, hx⟩ : ∃ x, ps[k] = x := ⟨_, rfl⟩
    rw [hx] at hx1 HD HTk
    clear hx
    have hwx : wrap64 (x : Int) = (x : Int) := IntWalk.wrap64_in _ (by omega)
    by_cases hlast : k + 1 = ps.length
    · obtain ⟨z, hz⟩ : ∃ z, Last z x := ⟨_, Last.mk x⟩
      have HPa := Lib.hid (show RP wr p (be z 4 ++ post) by
        have h9 := HPr.out
        rw [HD.out, List.drop_of_length_le (by omega)] at h9
        unfold Last at hz
        subst hz
        exact h9)
      have HMu := Lib.hid (fun W => mU32 (z : Int) W)
      clear HD
      go_wp2_with fail
      (with_reducible refine (rpU32 _ HPa.out (hz.lt hx1)).mono ?_)
      rintro e w6 ⟨rfl, hk6, hr⟩
      have HP6 := Lib.hid hr
      have HO6 := Lib.hid (HO.out.stays fun g' e => hk6.block g' (HO.out.lt g' e).2 (by cases e; exact hgp))
      have HB6 := Lib.hid (HB.out.trans (hk6.below hwp HB.out.size))
      have HO6k := Lib.hid (show w6.ownsRow w.heap.size 3 1 (.slice (some ⟨g, 0, none⟩) k cp) k ((ps.take k).flatMap natV) by have := HO6.out; unfold OwnX at this; rwa [HTL.out] at this)
      clear hk6 hr
      go_wp2_with fail
      (with_reducible refine (HMu.out w6).mono ?_)
      rintro e w7 ⟨rfl, rfl⟩
      go_upto_region 14 with (fail)
      have hnm := hz.not hx1
      go_upto_region 15 with (at_builtin; refine wpList_append_lies _ rfl (.tmp 50) (.tmp 54) 42 rfl w.heap.size 3 j0 (.int .i64 0) 1 8 Tryz.underlying42 hj hy0 hy1 hy2 rfl (by decide) _ k _ rfl (HO6k.out.alloc _) _ 1 1 [.int .i64 x] rfl rfl (cells_new w6 [.int .i64 x] _ rfl) (one_nat _) (by decide) (by unfold maxLen; omega) (by omega) (by have := HB6.out.size; simp; omega) _ rfl ?_; intro g2 cp2 w8 hown hg hat hlt2; have HO8 := Lib.hid hown; have HG8 := Lib.hid hg; have HA8 := Lib.hid hat; clear hown hg hat)
      clear hnm
      have hge := hz.ge'
      have HG2 := Lib.hid (show g2 ≠ p from by
        have hp6 := HP6.out.lt
        rcases HA8.out with h | h
        · cases h; exact hgp
        · rw [alloc_sz] at h; omega)
      have HO9 := Lib.hid (OwnX.push (enc := natV) (l := ps.take k) (m := [x]) HO8.out (by rw [HTL.out]; rfl) rfl)
      have HB9 := Lib.hid (bel_grown HB6.out HB6.out.size (bl_alloc (Below.refl _ w6) _) HG8.out (fun i hi => (HO6.out.lt i hi).1))
      go_wp2
      go_ret
      refine ⟨_, rfl, ?_, HB9.out⟩
      have h9 := HO9.out
      rw [← HTk.out, List.take_of_length_le (by omega), hlast] at h9
      exact h9
    · have hne : ps.drop (k + 1) ≠ [] := by intro e; have := congrArg List.length e; rw [List.length_drop, List.length_nil] at this; omega
      have HPa := Lib.hid (show RP wr p (be x 4 ++ (edgeT (ps.drop (k + 1)) ++ post)) by have := HPr.out; rw [HD.out, edgeT_cons _ _ hne, List.append_assoc] at this; exact this)
      have HMu := Lib.hid (fun W => mU32 (x : Int) W)
      clear hne HD
      go_wp2_with fail
      (with_reducible refine (rpU32 _ HPa.out (Nat.lt_of_lt_of_le hx1 (by decide))).mono ?_)
      rintro e w6 ⟨rfl, hk6, hr⟩
      have HP6 := Lib.hid hr
      have HO6 := Lib.hid (HO.out.stays fun g' e => hk6.block g' (HO.out.lt g' e).2 (by cases e; exact hgp))
      have HB6 := Lib.hid (HB.out.trans (hk6.below hwp HB.out.size))
      have HO6k := Lib.hid (show w6.ownsRow w.heap.size 3 1 (.slice (some ⟨g, 0, none⟩) k cp) k ((ps.take k).flatMap natV) by have := HO6.out; unfold OwnX at this; rwa [HTL.out] at this)
      clear hk6 hr
      go_wp2_with fail
      (with_reducible refine (HMu.out w6).mono ?_)
      rintro e w7 ⟨rfl, rfl⟩
      go_upto_region 14 with (fail)
      have hnm := low_not hx1
      go_upto_region 15 with (at_builtin; refine wpList_append_lies _ rfl (.tmp 50) (.tmp 54) 42 rfl w.heap.size 3 j0 (.int .i64 0) 1 8 Tryz.underlying42 hj hy0 hy1 hy2 rfl (by decide) _ k _ rfl (HO6k.out.alloc _) _ 1 1 [.int .i64 x] rfl rfl (cells_new w6 [.int .i64 x] _ rfl) (one_nat _) (by decide) (by unfold maxLen; omega) (by omega) (by have := HB6.out.size; simp; omega) _ rfl ?_; intro g2 cp2 w8 hown hg hat hlt2; have HO8 := Lib.hid hown; have HG8 := Lib.hid hg; have HA8 := Lib.hid hat; clear hown hg hat)
      clear hnm
      have hge := low_ge hx1
      have HG2 := Lib.hid (show g2 ≠ p from by
        have hp6 := HP6.out.lt
        rcases HA8.out with h | h
        · cases h; exact hgp
        · rw [alloc_sz] at h; omega)
      have HO9 := Lib.hid (OwnX.push (enc := natV) (l := ps.take k) (m := [x]) HO8.out (by rw [HTL.out]; rfl) rfl)
      have HB9 := Lib.hid (bel_grown HB6.out HB6.out.size (bl_alloc (Below.refl _ w6) _) HG8.out (fun i hi => (HO6.out.lt i hi).1))
      have HP9 := Lib.hid ((HP6.out.below (bl_alloc (Below.refl _ w6) (.cells #[.int .i64 x] 3))).upd (Upd.grown (F := fun i => i ≠ p) (Upd.refl _ _) HG8.out (fun i hi => .inl (by cases hi; exact hgp))) (by simp))
      go_wp2
      go_roundw
      case rel => exact ⟨k + 1, g2, cp2, by omega, by omega, rfl, HG2.out, by rw [HTk.out]; exact HO9.out, HP9.out, HB9.out⟩
      case measure => simp [lenV]; omega
end Go.Proofs.YtbhfbdcmamodcaaGreatDoor
namespace Go.Proofs.YtbhfbdcmamodcaaGreatDoor
open Go.RowKit PackMath SumMath
theorem parOk : ParOk := by
  intro r e s pre post h16 hp h4 he hs hpre hsz w
  match hps : r.parents with
  | [] =>
    have h1 : firstP r = 4294967295 := by simp [firstP, hps]
    have h2 : secondP r e = 4294967295 := by simp [secondP, hps]
    rw [h1, h2]
    exact gPar0 s w
  | [x0] =>
    have h1 : firstP r = x0 := by simp [firstP, hps]
    have h2 : secondP r e = 4294967295 := by simp [secondP, hps]
    rw [h1, h2]
    exact gPar1 x0 (hp x0 (by simp [hps])) s w
  | [x0, x1] =>
    have h1 : firstP r = x0 := by simp [firstP, hps]
    have h2 : secondP r e = x1 := by simp [secondP, hps]
    rw [h1, h2]
    exact gPar2 x0 x1 (hp x0 (by simp [hps])) (hp x1 (by simp [hps])) s w
  | x0 :: x1 :: x2 :: l =>
    have h1 : firstP r = x0 := by simp [firstP, hps]
    have h2 : secondP r e = 2147483648 + e / 4 := by simp [secondP, hps]
    have h3 : 2 < r.parents.length := by rw [hps]; simp
    have hed : edgeR r = edgeT r.parents.tail := by unfold edgeR; rw [if_pos h3]
    rw [hed] at hs
    rw [h1, h2, ← hps]
    exact gPar3 r.parents h3 h16 hp x0 (by rw [hps]; rfl) (2147483648 + e / 4) (e / 4) e (by omega) rfl (by omega) s pre post hs hpre hsz w
end Go.Proofs.YtbhfbdcmamodcaaGreatDoor
