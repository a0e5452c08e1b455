/- Walks of the law CommitDecodes: what is read, spoilt, and read anew. -/
import Derived.Test.YtmmabkppadokkaaCmW7
import Derived.Test.YtmmabkppadokkaaCmL1
set_option linter.unusedVariables false
set_option linter.unusedSimpArgs false
namespace Go.Proofs.Ytmmabkppadokkaa
open Go.RowKit PackMath

/-- What is read, with its row named. -/
def DecEx (t : Nat) (zs : List Int) (E : Nat) (w : World) (r : Ending) (w' : World) : Prop :=
  ∃ (ca : Option Addr) (cp : Nat), r = .returned (.tuple #[.agg #[.slice ca zs.length cp, .int .i64 t], .int .i64 E]) ∧ w'.ownsRow w.heap.size 3 1 (.slice ca zs.length cp) zs.length (intVals zs) ∧ Com w' ca zs cp ∧ Below w.heap.size w w'
theorem decEx_of {s : ByteArray} {t E : Nat} {zs : List Int} {w : World} {f : FuncId} (hD : decR s = (E, (t, zs))) (h : Calls Try.prog f #[.string s] w (DecSaid s w)) : Calls Try.prog f #[.string s] w (DecEx t zs E w) := by
  refine h.mono ?_
  rintro r w' ⟨v, rfl, ho, hb⟩
  obtain ⟨hg1, hg2⟩ := dec_good s
  rw [hD] at ho hg1 hg2 ⊢
  obtain ⟨ca, cp, rfl, hc⟩ := com_of_own ho hg2 (by have h : zs.length ≤ 16 := hg1; omega)
  exact ⟨ca, cp, rfl, ho, hc, hb⟩

/-- Two answers, each in a box: the first's row may be spoilt, all else stays. -/
structure Spoil (w wr : World) (p q : Nat) (ca : Option Addr) (cp : Nat) (da : Option Addr) (dp : Nat) (t : Nat) (zs : List Int) : Prop where
  c0 : wr.heap[p]? = some (.cells #[.slice ca zs.length cp, .int .i64 t] 24 (0, 0))
  d0 : wr.heap[q]? = some (.cells #[.slice da zs.length dp, .int .i64 t] 24 (0, 0))
  rv : ∃ xs, wr.ownsRow w.heap.size 3 1 (.slice ca zs.length cp) zs.length xs
  rd : wr.ownsRow (p + 1) 3 1 (.slice da zs.length dp) zs.length (intVals zs)
  lo : ∀ g, (Value.slice ca zs.length cp).ownBlock = some g → g < p
  pq : p < q
  bel : Below w.heap.size w wr
  small : zs.length ≤ 256
  wf : ∀ z ∈ zs, 0 ≤ z ∧ z < 4294967296
section
variable {w wr : World} {p q : Nat} {ca : Option Addr} {cp : Nat} {da : Option Addr} {dp : Nat} {t : Nat} {zs : List Int}
theorem Spoil.grown {w1 : World} {row : Option Nat} (h : Spoil w wr p q ca cp da dp t zs) (hg : wr.grownBy w1 row) (hr : row = (Value.slice ca zs.length cp).ownBlock) (hv : ∃ xs, w1.ownsRow w.heap.size 3 1 (.slice ca zs.length cp) zs.length xs) : Spoil w w1 p q ca cp da dp t zs := by
  have hp := (Array.getElem?_eq_some_iff.1 h.c0).1
  have hq := (Array.getElem?_eq_some_iff.1 h.d0).1
  have hpq := h.pq
  have hlt : ∀ k, p ≤ k → some k ≠ row := fun k hk e => by rw [hr] at e; have := h.lo k e.symm; omega
  refine ⟨by rw [hg.block p hp (hlt p (Nat.le_refl _))]; exact h.c0, by rw [hg.block q hq (hlt q (by omega))]; exact h.d0, hv, own_kept h.rd (fun k hk hl => hg.block k hl (hlt k (by omega))), h.lo, h.pq, ?_, h.small, h.wf⟩
  obtain ⟨xs, hx⟩ := h.rv
  exact h.bel.trans ⟨hg.os, hg.tape, hg.output, by have := hg.size; exact this |> Nat.le_trans h.bel.size |> fun _ => hg.size, fun k hk => hg.block k (Nat.lt_of_lt_of_le hk h.bel.size) (fun e => by rw [hr] at e; have := (hx.lt k e.symm).1; omega)⟩
theorem Spoil.cells (h : Spoil w wr p q ca cp da dp t zs) : wr.cell? ⟨p, 0, none⟩ = some (.slice ca zs.length cp) ∧ wr.cell? ⟨p, 1, none⟩ = some (.int .i64 t) ∧ wr.cell? ⟨q, 0, none⟩ = some (.slice da zs.length dp) ∧ wr.cell? ⟨q, 1, none⟩ = some (.int .i64 t) :=
  ⟨by rw [cell_of_row _ _ _ _ _ _ h.c0]; rfl, by rw [cell_of_row _ _ _ _ _ _ h.c0]; rfl, by rw [cell_of_row _ _ _ _ _ _ h.d0]; rfl, by rw [cell_of_row _ _ _ _ _ _ h.d0]; rfl⟩
theorem Spoil.com (h : Spoil w wr p q ca cp da dp t zs) : Com wr da zs dp := by
  obtain ⟨a, c, hv, hc⟩ := com_of_own h.rd h.wf h.small
  simp only [Value.slice.injEq] at hv
  obtain ⟨rfl, _, rfl⟩ := hv
  exact hc
theorem Spoil.below {w1 : World} (h : Spoil w wr p q ca cp da dp t zs) (hb : Below wr.heap.size wr w1) : Spoil w w1 p q ca cp da dp t zs := by
  obtain ⟨xs, hx⟩ := h.rv
  exact h.grown (row := (Value.slice ca zs.length cp).ownBlock) ⟨hb.os, hb.tape, hb.output, hb.size, fun k hk _ => hb.block k hk⟩ rfl ⟨xs, own_kept hx (fun k _ hl => hb.block k hl)⟩
theorem Spoil.store {g k : Nat} (h : Spoil w wr p q (some ⟨g, 0, none⟩) cp da dp t zs) (z : Int) : Spoil w (wr.setCell ⟨g, k, none⟩ (.int .i64 z)) p q (some ⟨g, 0, none⟩) cp da dp t zs := by
  obtain ⟨xs, hx⟩ := h.rv
  obtain ⟨h1, h2⟩ := hx.stored k (.int .i64 z)
  exact h.grown h2 rfl ⟨_, h1⟩
theorem Spoil.at (h : Spoil w wr p q ca cp da dp t zs) (k : Nat) (hk : k < zs.length) : ∃ g u, ca = some ⟨g, 0, none⟩ ∧ wr.cell? ⟨g, k, none⟩ = some u ∧ wr.frozen? ⟨g, k, none⟩ = false := by
  obtain ⟨xs, hx⟩ := h.rv
  rcases hx.2 with ⟨h', h0⟩ | ⟨g', cap', cur, h', _⟩
  · omega
  · simp only [Value.slice.injEq] at h'
    obtain ⟨rfl, _, _⟩ := h'
    have hl : k < xs.length := by rw [hx.1]; omega
    exact ⟨g', xs[k], rfl, by rw [hx.cellAt k (by omega)]; simp [hl], hx.frozenAt k⟩
theorem Spoil.after {w1 : World} {o : Obj} (h : Spoil w wr p q ca cp da dp t zs) (hg : (wr.alloc o).grownBy w1 (Value.slice ca zs.length cp).ownBlock) :
    w1.cell? ⟨q, 0, none⟩ = some (.slice da zs.length dp) ∧ w1.cell? ⟨q, 1, none⟩ = some (.int .i64 t) ∧ Com w1 da zs dp ∧ Below w.heap.size w w1 := by
  have hp := (Array.getElem?_eq_some_iff.1 h.c0).1
  have hq := (Array.getElem?_eq_some_iff.1 h.d0).1
  have hpq := h.pq
  have hs : (wr.alloc o).heap.size = wr.heap.size + 1 := by simp
  have hlt : ∀ k, p ≤ k → some k ≠ (Value.slice ca zs.length cp).ownBlock := fun k hk e => by have := h.lo k e.symm; omega
  have same : ∀ k, p ≤ k → k < wr.heap.size → w1.heap[k]? = wr.heap[k]? := fun k hk hl => by
    rw [hg.block k (by omega) (hlt k hk), Below.heap_alloc wr o k hl]
  have hrow : w1.heap[q]? = some (.cells #[.slice da zs.length dp, .int .i64 t] 24 (0, 0)) := by rw [same q (by omega) hq]; exact h.d0
  have hrd := own_kept h.rd (fun k hk hl => same k (by omega) hl)
  obtain ⟨a, c, hv, hc⟩ := com_of_own hrd h.wf h.small
  simp only [Value.slice.injEq] at hv
  obtain ⟨rfl, _, rfl⟩ := hv
  obtain ⟨xs, hx⟩ := h.rv
  have hbs := h.bel.size
  refine ⟨by rw [cell_of_row _ _ _ _ _ _ hrow]; rfl, by rw [cell_of_row _ _ _ _ _ _ hrow]; rfl, hc, h.bel.trans ⟨hg.os, hg.tape, hg.output, by have := hg.size; omega, fun k hk => ?_⟩⟩
  rw [hg.block k (by omega) (fun e => by have := (hx.lt k e.symm).1; omega), Below.heap_alloc wr o k (by omega)]
theorem Spoil.start {w1 w2 w3 : World} (ho : w1.ownsRow w.heap.size 3 1 (.slice ca zs.length cp) zs.length (intVals zs)) (hb1 : Below w.heap.size w w1) (hw2 : w2 = w1.alloc (.cells #[.slice ca zs.length cp, .int .i64 t] 24))
    (ho2 : w3.ownsRow w2.heap.size 3 1 (.slice da zs.length dp) zs.length (intVals zs)) (hb2 : Below w2.heap.size w2 w3) (hs : zs.length ≤ 256) (hwf : ∀ z ∈ zs, 0 ≤ z ∧ z < 4294967296) :
    Spoil w (w3.alloc (.cells #[.slice da zs.length dp, .int .i64 t] 24)) w1.heap.size w3.heap.size ca cp da dp t zs := by
  have hz : w2.heap.size = w1.heap.size + 1 := by rw [hw2]; simp
  have hz3 := hb2.size
  have hb12 : Below w1.heap.size w1 w3 := (show Below w1.heap.size w1 w2 by rw [hw2]; exact bl_alloc (Below.refl _ _) _).trans (hb2.mono (by omega))
  have hb3 := bl_alloc (Below.refl _ w3) (.cells #[.slice da zs.length dp, .int .i64 t] 24)
  refine ⟨?_, heap_alloc_new _ _, ⟨intVals zs, own_kept ho (fun k _ hl => (hb3.block k (by omega)).trans (hb12.block k hl))⟩, ?_, fun g hg => (ho.lt g hg).2, by omega, bl_trans hb1 (bl_trans hb12 hb3), hs, hwf⟩
  · rw [hb3.block _ (by omega), hb2.block _ (by omega), hw2]
    exact heap_alloc_new _ _
  · have := own_kept ho2 (fun k _ hl => hb3.block k hl)
    rwa [hz] at this
end

set_option maxHeartbeats 1600000 in
set_option maxRecDepth 100000 in
theorem cDecoded (s : ByteArray) (hs : s.size < 281474976710656) (w : World) : Calls Try.prog 16 #[.string s] w fun e w' => e = .returned (.bool true) ∧ Below w.heap.size w w' := by
  obtain ⟨i0, hi, hz0, hz1, hz2⟩ := info_parts infoInt
  obtain ⟨E, t, zs, hD⟩ : ∃ E t zs, decR s = (E, (t, zs)) := ⟨_, _, _, rfl⟩
  have HC := Lib.hid (fun w => decEx_of hD (cDecode s hs w))
  have HD := Lib.hid (fun w => decEx_of hD (dDecode s hs w))
  have hgd := dec_good s
  rw [hD] at hgd
  have hsm : zs.length ≤ 16 := hgd.1
  have HW := Lib.hid (show ∀ z ∈ zs, 0 ≤ z ∧ z < 4294967296 from hgd.2)
  have HS := Lib.hid (sameB_self (t := (t : Int)) (zs := zs))
  clear hD hgd
  go_enter Try.func16, Try.ntmps16
  go_wp2_with (go_at_call 17; (with_reducible refine (HC.out w).mono ?_); rintro r w1 ⟨ca, cp, rfl, ho, hc, hb⟩; have HO1 := Lib.hid ho; have HC1 := Lib.hid hc; have HB1 := Lib.hid hb; clear ho hc hb)
  obtain ⟨w2, hw2⟩ : ∃ w2, w2 = w1.alloc (.cells #[.slice ca zs.length cp, .int .i64 t] 24) := ⟨_, rfl⟩
  have HW2 := Lib.hid hw2
  rw [← hw2]
  clear hw2
  go_wp2_with (go_at_call 28; (with_reducible refine (HD.out w2).mono ?_); rintro r w3 ⟨da, dp, rfl, ho, hc, hb⟩; have HSp := Lib.hid (Spoil.start (t := t) HO1.out HB1.out HW2.out ho hb (by omega) HW.out); have HCc := Lib.hid ((HC1.out.alloc (.cells #[.slice ca zs.length cp, .int .i64 t] 24))); have HCx := Lib.hid ((HW2.out ▸ HCc.out : Com w2 ca zs cp).below hb); obtain ⟨c0, c1, d0, d1⟩ := (Spoil.start (t := t) HO1.out HB1.out HW2.out ho hb (by omega) HW.out).cells; clear ho hc hb)
  go_wp2_with (go_at_call 15; refine (dSame _ t t zs zs ca da cp dp (HCx.out.alloc _) HSp.out.com).mono ?_; rintro r w4 ⟨rfl, hb⟩; rw [HS.out]; have HS4 := Lib.hid (HSp.out.below hb); obtain ⟨x0, x1, y0, y1⟩ := (HSp.out.below hb).cells; clear hb c0 c1 d0 d1)
  go_loopw [32] (fun i wr => ∃ k : Nat, k ≤ zs.length ∧ i = .int .i64 k ∧ Spoil w wr w1.heap.size w3.heap.size ca cp da dp t zs) (fun i _ => zs.length - (intOf i).toNat)
  case atStart => exact ⟨0, Nat.zero_le _, rfl, HS4.out⟩
  case round =>
    obtain ⟨k, hk, rfl, hsp⟩ := hrel
    obtain ⟨c0, c1, d0, d1⟩ := hsp.cells
    have HK := Lib.hid hsp
    clear hsp
    by_cases hlt : k < zs.length
    · obtain ⟨g, u, rfl, hcell, hfr⟩ := HK.out.at k hlt
      go_wp2
      go_roundw
      case rel => exact ⟨k + 1, by omega, by go_num, HK.out.store _⟩
      case measure => simp [intOf]; omega
    · obtain ⟨xs, hx⟩ := HK.out.rv
      have HX := Lib.hid hx
      have hwl := HK.out.bel.size
      clear hx
      go_wp2_with (refine wpList_append_lies _ rfl (.tmp 41) (.tmp 42) 22 rfl w.heap.size 3 i0 (.int .i64 0) 1 8 Try.underlying22 hi hz0 hz1 hz2 rfl (by decide) _ zs.length xs rfl (HX.out.alloc _) ⟨wr.heap.size, 0, none⟩ 2 2 [.int .i64 (-8), .int .i64 (-7)] rfl rfl (cells_two _ _ _ _) (intVals_one [-8, -7]) (by decide) (by unfold maxLen; omega) (by omega) (by simp; omega) (wr.heap.size + 1) (by simp) ?_; intro gg cpp w5 hown hg hat hlt5; obtain ⟨x0, x1, x2, x3⟩ := HK.out.after hg; have HX2 := Lib.hid x2; have HX3 := Lib.hid x3; clear hown hg hat hlt5 x2 x3 c0 c1 d0 d1)
      go_wp2_with (go_at_call 17; (with_reducible refine (HC.out w5).mono ?_); rintro r w6 ⟨ea, ep, rfl, ho, hc, hb⟩; have HO6 := Lib.hid hc; have HX6 := Lib.hid (HX2.out.below hb); have HB6 := Lib.hid (bl_trans HX3.out hb); have z0 := fun o => bl_cell (bl_alloc (Below.refl _ w6) o) (bl_cell hb x0); have z1 := fun o => bl_cell (bl_alloc (Below.refl _ w6) o) (bl_cell hb x1); clear ho hc hb x0 x1)
      go_wp2_with (go_at_call 15; refine (dSame _ t t zs zs ea da ep dp (HO6.out.alloc _) (HX6.out.alloc _)).mono ?_; rintro r w7 ⟨rfl, hb⟩; rw [HS.out]; have HB7 := Lib.hid (bl_trans (bl_alloc HB6.out _) hb); clear hb)
      go_ret
      exact ⟨rfl, HB7.out⟩

set_option maxHeartbeats 800000 in
theorem commitDecodes_any (s : ByteArray) (hs : s.size ≤ 140737488355328) (w : World) : Calls Try.prog 5 #[.string s] w fun e w' => e = .returned (.bool true) ∧ Below w.heap.size w w' := by
  obtain ⟨M, hM⟩ : ∃ M : Nat, M = min s.size 100 := ⟨_, rfl⟩
  have hM1 : (if (100 : Int) < (s.size : Int) then (100 : Int) else (s.size : Int)) = (M : Int) := by split <;> omega
  have hMs : M ≤ s.size := by omega
  have hM40 : M ≤ 100 := by omega
  have hss : s.size < 281474976710656 := by omega
  clear hM
  go_enter Try.func5, Try.ntmps5
  go_wp2_with (go_at_call 7; refine (cTells w).mono ?_; rintro e w1 ⟨rfl, hb1⟩; have HB1 := Lib.hid hb1; clear hb1)
  clear hM1
  go_loopw [10] (fun i wr => ∃ k : Nat, k ≤ M + 1 ∧ i = .int .i64 k ∧ Below w.heap.size w wr) (fun i _ => M + 1 - (intOf i).toNat)
  case atStart => exact ⟨0, Nat.zero_le _, rfl, HB1.out⟩
  case round =>
    obtain ⟨k, hk, rfl, hbb⟩ := hrel
    have HB := Lib.hid hbb
    clear hbb
    by_cases hlt : k < M + 1
    · have hks : k ≤ s.size := by omega
      have hsk : (s.extract 0 k).size < 281474976710656 := by rw [ByteArray.size_extract]; omega
      go_wp2_with (go_at_call 16; refine (cDecoded (s.extract 0 k) hsk wr).mono ?_; rintro e w2 ⟨rfl, hb⟩; have HB2 := Lib.hid (bl_trans HB.out hb); clear hb)
      go_roundw
      case rel => exact ⟨k + 1, by omega, by go_num, HB2.out⟩
      case measure => simp [intOf]; omega
    · go_wp2_with (go_at_call 16; refine (cDecoded s hss wr).mono ?_; rintro e w2 ⟨rfl, hb⟩; have HB2 := Lib.hid (bl_trans HB.out hb); clear hb)
      go_ret
      exact ⟨rfl, HB2.out⟩
end Go.Proofs.Ytmmabkppadokkaa
