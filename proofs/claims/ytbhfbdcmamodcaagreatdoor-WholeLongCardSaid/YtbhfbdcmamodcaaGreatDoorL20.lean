/- Walk of layer 13: the filter of paths, in the program; Walk of layer 13: the document's second example ('filters'), and the law BloomHashes; Walk of the law BloomPlaces; Walk of layer 13: the unlike ones of some paths, in the document's answer; Plain law of layer 13: what a filter was made of may have changed by it; Walk of the law BloomMakes. -/
import Derived.Test.YtbhfbdcmamodcaaGreatDoorL09
import Derived.Test.YtbhfbdcmamodcaaGreatDoorL11
import Derived.Test.YtbhfbdcmamodcaaGreatDoorL19
import Derived.BigRegion
import Derived.Deep.RegionHeld3
import Derived.Deep.RegionWith
set_option linter.unusedVariables false
set_option linter.unusedSimpArgs false
namespace Go.Proofs.YtbhfbdcmamodcaaGreatDoor
open Go.RowKit BlMath Go.Maps
theorem keyOf_string_inv2 {P : Program} {k : TypeId} (hk : P.underlying k = some .string) {key : Value} {kl : Lit} (h : keyOf P k key = some kl) : ∃ s : ByteArray, key = .string s ∧ kl = keyS s ∧ s.size ≤ maxLen := by
  cases key <;> simp [keyOf, hk, mapKey] at h
  obtain ⟨h1, rfl⟩ := h
  exact ⟨_, rfl, rfl, h1⟩
structure FilAt (w wr : World) (H P M S : Int) : Prop where
  set : wr.heap[w.heap.size]? = some (.cells #[.int .i64 H, .int .i64 P, .int .i64 M, .int .u32 S] 49 (0, 0))
  row : wr.heap[w.heap.size + 1]? = some (.cells #[.int .i64 0, .string ⟨#[]⟩] 183 (0, 0))
  bel : Below w.heap.size w wr
theorem FilAt.start (w : World) (H P M S : Int) : FilAt w ((w.alloc (.cells #[.int .i64 H, .int .i64 P, .int .i64 M, .int .u32 S] 49)).alloc (.cells #[.int .i64 0, .string ⟨#[]⟩] 183)) H P M S :=
  ⟨heap_alloc2_old _ _ _, heap_alloc2_new _ _ _, bl_alloc (bl_alloc (Below.refl _ _) _) _⟩
theorem FilAt.lt {w wr : World} {H P M S : Int} (h : FilAt w wr H P M S) : w.heap.size + 1 < wr.heap.size := (Array.getElem?_eq_some_iff.1 h.row).1
theorem FilAt.below {w wr w1 : World} {H P M S : Int} (h : FilAt w wr H P M S) (hb : Below wr.heap.size wr w1) : FilAt w w1 H P M S :=
  ⟨by rw [hb.block _ (by have := h.lt; omega)]; exact h.set, by rw [hb.block _ h.lt]; exact h.row, bl_trans h.bel hb⟩
theorem FilAt.cells {w wr : World} {H P M S : Int} (h : FilAt w wr H P M S) : wr.cell? ⟨w.heap.size, 0, none⟩ = some (.int .i64 H) ∧ wr.cell? ⟨w.heap.size, 1, none⟩ = some (.int .i64 P) ∧ wr.cell? ⟨w.heap.size, 2, none⟩ = some (.int .i64 M) ∧ wr.cell? ⟨w.heap.size, 3, none⟩ = some (.int .u32 S) ∧
    wr.cell? ⟨w.heap.size + 1, 0, none⟩ = some (.int .i64 0) ∧ wr.cell? ⟨w.heap.size + 1, 1, none⟩ = some (.string ⟨#[]⟩) ∧ wr.frozen? ⟨w.heap.size + 1, 0, none⟩ = false ∧ wr.frozen? ⟨w.heap.size + 1, 1, none⟩ = false :=
  ⟨by rw [cell_of_row _ _ _ _ _ _ h.set]; rfl, by rw [cell_of_row _ _ _ _ _ _ h.set]; rfl, by rw [cell_of_row _ _ _ _ _ _ h.set]; rfl, by rw [cell_of_row _ _ _ _ _ _ h.set]; rfl,
    by rw [cell_of_row _ _ _ _ _ _ h.row]; rfl, by rw [cell_of_row _ _ _ _ _ _ h.row]; rfl, frozen_of_row _ _ _ _ _ h.row, frozen_of_row _ _ _ _ _ h.row⟩
theorem FilAt.done {w wr : World} {H P M S k : Int} {b : ByteArray} (h : FilAt w wr H P M S) :
    ((wr.setCell ⟨w.heap.size + 1, 0, none⟩ (.int .i64 k)).setCell ⟨w.heap.size + 1, 1, none⟩ (.string b)).cell? ⟨w.heap.size + 1, 0, none⟩ = some (.int .i64 k) ∧
    ((wr.setCell ⟨w.heap.size + 1, 0, none⟩ (.int .i64 k)).setCell ⟨w.heap.size + 1, 1, none⟩ (.string b)).cell? ⟨w.heap.size + 1, 1, none⟩ = some (.string b) ∧
    Below w.heap.size w ((wr.setCell ⟨w.heap.size + 1, 0, none⟩ (.int .i64 k)).setCell ⟨w.heap.size + 1, 1, none⟩ (.string b)) := by
  have h1 := heap_setCell_same wr (w.heap.size + 1) 0 _ _ (.int .i64 k) h.row
  have h2 := heap_setCell_same _ (w.heap.size + 1) 1 _ _ (.string b) h1
  exact ⟨by rw [cell_of_row _ _ _ _ _ _ h2]; rfl, by rw [cell_of_row _ _ _ _ _ _ h2]; rfl, (h.bel.setCell (by simp) _).setCell (by simp) _⟩
theorem mk_of {H P M : Int} {S : Nat} {l : List ByteArray} {w w' : World} {e st : Nat} {b : ByteArray} (h : makeR H P M S l = (e, (st, b))) (hb : Below w.heap.size w w') :
    MkSaid (makeR H P M S l) w (.returned (.tuple #[.agg #[.int .i64 st, .string b], .int .i64 e])) w' := by
  unfold MkSaid; rw [h]; exact ⟨rfl, hb⟩
set_option maxHeartbeats 1000000 in
set_option maxRecDepth 100000 in
theorem blMake_bad (H P M : Int) (S : Nat) (hc : chkR H P M ≠ 0) (a : Option Addr) (cap : Nat) (ss : List ByteArray) (w : World) :
    Calls Tryz.prog 162 #[.agg #[.int .i64 H, .int .i64 P, .int .i64 M, .int .u32 S], .slice a ss.length cap] w (MkSaid (makeR H P M S ss) w) := by
  have HC := Lib.hid (fun W => blCheck H P M S W)
  rw [chk_one hc] at HC
  have HF := Lib.hid (mk_bad (S := S) (l := ss) hc)
  have HR0 := Lib.hid (FilAt.start w H P M S)
  clear hc
  go_enter Tryz.func162, Tryz.ntmps162
  go_wp2_with (go_at_call 86; (with_reducible refine (HC.out _).mono ?_); rintro r w1 ⟨rfl, hb⟩; have HR1 := Lib.hid (HR0.out.below hb); obtain ⟨c0, c1, c2, c3, r0, r1, q0, q1⟩ := (HR0.out.below hb).cells; clear hb)
  obtain ⟨z0, z1, hbz⟩ := FilAt.done (k := 0) (b := ⟨#[]⟩) HR1.out
  refine bodyPost_ret (v := .tuple #[.agg #[.int .i64 0, .string ⟨#[]⟩], .int .i64 1]) (by simp [results, Tryz.results162, go_sem, z0, z1]) rfl ?_
  exact mk_of HF.out hbz
theorem zero_bytes (n : Nat) : List.replicate n (Value.int .u8 0) = bytesOf (bytesB (fun _ => false) n) := by
  unfold bytesOf bytesB
  apply List.ext_getElem
  · simp
  · intro i h1 h2
    simp [byteB_zero]
abbrev SdS (ss : List ByteArray) (k : Nat) : DataW Unit := setOf (.agg []) ((ss.take k).map keyS)
theorem SdS_snoc (ss : List ByteArray) (k : Nat) (h : k < ss.length) : SdS ss (k + 1) = (SdS ss k).put (keyS ss[k]) (.agg []) := by
  unfold SdS
  rw [List.take_succ_eq_append_getElem h, List.map_append, List.map_cons, List.map_nil, setOf_snoc]
theorem grown_bel {w w' : World} {B g : Nat} (h : w.grownBy w' (some g)) (hB : B ≤ w.heap.size) (hg : B ≤ g) : Below B w w' :=
  ⟨h.os, h.tape, h.output, h.size, fun k hk => h.block k (by omega) (fun e => by have := Option.some.inj e; omega)⟩
theorem byteQ (f g : Nat → Bool) (n y : Nat) (h : ∀ i, g i = (f i || decide (i = y))) : (bytesOf (bytesB f n)).set (y / 8) (.int .u8 ((byteB f (y / 8) ||| 2 ^ (y % 8) : Nat) : Int)) = bytesOf (bytesB g n) := by
  rw [bytesB_congr n h, ← bytesB_set f n y]
  have hl : byteB f (y / 8) ||| 2 ^ (y % 8) < 256 := Nat.or_lt_two_pow (n := 8) (byteB_lt _ _) (Nat.pow_lt_pow_right (by decide) (Nat.mod_lt _ (by decide)))
  unfold bytesOf
  rw [List.map_set]
  congr 2
  rw [UInt8.toNat_ofNat']
  omega
theorem byteC (f : Nat → Bool) (n q : Nat) (h : q < n) : (bytesOf (bytesB f n))[q]? = some (.int .u8 (byteB f q : Nat)) := by
  have hl := byteB_lt f q
  simp [bytesOf, bytesB, h]
  omega
theorem pow_u8 (r : Nat) (h : r < 8) : IntKind.u8.wrap ((2 : Int) ^ r) = ((2 ^ r : Nat) : Int) := by
  match r, h with
  | 0, _ => rfl
  | 1, _ => rfl
  | 2, _ => rfl
  | 3, _ => rfl
  | 4, _ => rfl
  | 5, _ => rfl
  | 6, _ => rfl
  | 7, _ => rfl
theorem own_some {B e n : Nat} {w : World} {v : Value} {xs : List Value} (h : w.ownsRow B e 1 v n xs) (hn : 0 < n) : ∃ g c, v = .slice (some ⟨g, 0, none⟩) n c := by
  rcases h.2 with ⟨_, h0⟩ | ⟨g, cap, cur, rfl, _⟩
  · omega
  · exact ⟨g, cap, rfl⟩
theorem grown_none {w w' : World} (h : Below w.heap.size w w') : w.grownBy w' none := ⟨h.os, h.tape, h.output, h.size, fun k hk _ => h.block k hk⟩
set_option maxHeartbeats 4000000 in
set_option maxRecDepth 100000 in
theorem blMake_good (H P M S : Nat) (hc : chkR H P M = 0) (hS : S < 4294967296) (a : Option Addr) (cap : Nat) (ss : List ByteArray) (hl : ss.length ≤ maxLen) (w : World) (hs : StrsAt w a ss) :
    Calls Tryz.prog 162 #[.agg #[.int .i64 H, .int .i64 P, .int .i64 M, .int .u32 S], .slice a ss.length cap] w (MkSaid (makeR H P M S ss) w) := by
  have hml : maxLen = 9223372036854775807 := rfl
  unfold maxLen at hl
  have HC := Lib.hid (fun W => blCheck H P M S W)
  rw [hc] at HC
  have HCC := Lib.hid hc
  obtain ⟨hH1, hH2, hP1, hP2, hM1, hM2⟩ := chk_zero hc
  have HR0 := Lib.hid (FilAt.start w H P M S)
  have HS := Lib.hid hs
  have hmm := @run_makeMap Tryz.prog
  obtain ⟨i0, hi, hz0, hz1, hz2⟩ := info_parts infoU8
  have HK := Lib.hid (fun (s : ByteArray) (hz : s.size ≤ maxLen) => WideMaps.keyOf_string_mk (P := Tryz.prog) Tryz.underlying9 hz)
  clear hc hs hml
  go_enter Tryz.func162, Tryz.ntmps162
  go_wp2_with (go_at_call 86; (with_reducible refine (HC.out _).mono ?_); rintro r w1 ⟨rfl, hb⟩; have HR1 := Lib.hid (HR0.out.below hb); clear hb)
  have HBm := Lib.hid (bl_alloc (Below.refl w1.heap.size w1) (.map #[] 0))
  go_loopw [23] (fun i wr => ∃ k : Nat, k ≤ ss.length ∧ i = .int .i64 k ∧ wr.ownsMap Tryz.prog 9 unitElem w1.heap.size k (SdS ss k) ∧ Below w1.heap.size w1 wr) (fun i _ => ss.length - (intOf i).toNat)
  case atStart => exact ⟨0, Nat.zero_le _, rfl, World.ownsMap_made _ _ _ _, HBm.out⟩
  case round =>
    obtain ⟨k, hk, rfl, hown, hbb⟩ := hrel
    have HO := Lib.hid hown; have HBB := Lib.hid hbb
    have hsz := hbb.size
    clear hown hbb
    by_cases hlt : k < ss.length
    · obtain ⟨hpz, b0, off, rfl, hcell⟩ := HS.out.below (HR1.out.bel.trans (HBB.out.mono HR1.out.bel.size)) (Nat.le_refl _) k hlt
      have HSN := Lib.hid (SdS_snoc ss k hlt)
      have HKY := Lib.hid (HK.out ss[k] hpz)
      generalize ss[k] = p at *
      go_wp2_with (refine wpList_mapUpdate_own _ rfl _ _ _ 312 rfl 9 297 (string_keyed Tryz.underlying9) Tryz.underlying312 (unitElem (H := Unit)) w1.heap.size k _ rfl HO.out (by unfold maxLen; omega) _ _ _ rfl rfl HKY.out _ [] unitElem_mk ?_; intro w2 hown1 hgrow1; have HO2 := Lib.hid hown1; have HB2 := Lib.hid (HBB.out.trans (grown_bel hgrow1 hsz (Nat.le_refl _))); clear hown1 hgrow1)
      go_roundw
      case rel => exact ⟨k + 1, by omega, by go_num, by rw [HSN.out]; exact HO2.out, HB2.out⟩
      case measure => simp [intOf]; omega
    · obtain rfl : k = ss.length := by omega
      obtain ⟨wo, rfl⟩ : ∃ wo : World, wo = wr := ⟨_, rfl⟩
      have HSZ := Lib.hid (show Maps.size (SdS ss ss.length) = (uniq ss).length from by unfold SdS; rw [List.take_length, size_uniq])
      obtain ⟨c0, c1, c2, c3, r0, r1, q0, q1⟩ := (HR1.out.below HBB.out).cells
      by_cases hbig : (M : Int) < (uniq ss).length
      · have HF := Lib.hid (mk_large (S := S) (l := ss) HCC.out hbig)
        have hd : decide ((M : Int) < ((uniq ss).length : Int)) = true := by simpa using hbig
        go_wp2_with (at_len; refine wpList_len_own _ rfl _ 312 rfl 9 297 Tryz.underlying312 (unitElem (H := Unit)) w1.heap.size _ _ rfl HO.out ?_; rw [HSZ.out])
        obtain ⟨z0, z1, hbz⟩ := FilAt.done (k := 2) (b := ⟨#[]⟩) (HR1.out.below HBB.out)
        refine bodyPost_ret (v := .tuple #[.agg #[.int .i64 2, .string ⟨#[]⟩], .int .i64 0]) (by simp [results, Tryz.results162, go_sem, z0, z1]) rfl ?_
        exact mk_of HF.out hbz
      · have HF := Lib.hid (mk_small (S := S) (l := ss) HCC.out hbig)
        have hd : decide ((M : Int) < ((uniq ss).length : Int)) = false := by simpa using hbig
        have hu : (uniq ss).length ≤ 512 := by omega
        generalize hU : (uniq ss).length = U at *
        have HU := Lib.hid hU
        clear hU
        have hUP : U * P ≤ 512 * 64 := Nat.mul_le_mul hu (by omega)
        have hm1 : IntKind.i64.wrap ((U : Int) * (P : Int)) = ((U * P : Nat) : Int) := by rw [← Int.natCast_mul]; exact IntWalk.i64_in _ (by omega)
        have HRM := Lib.hid (show roomB U P = max 1 ((U * P + 7) / 8) from rfl)
        generalize U * P = UP at *
        obtain ⟨nb, hnb⟩ : ∃ nb, nb = max 1 ((UP + 7) / 8) := ⟨_, rfl⟩
        rw [← hnb] at HRM
        have HNB := Lib.hid hnb
        have hnb1 : 1 ≤ nb := by omega
        have hnb2 : nb ≤ 4100 := by omega
        clear hnb
        have HPC := Lib.hid (fun (x : ByteArray) (hx : x.size ≤ maxLen) W => blPlaces_at H (8 * nb) S P M (8 * (nb : Int)) (by omega) HCC.out (by omega) (by omega) hS x hx W)
        have hzc : (madeCells (Value.int .u8 0).cells (nb * 1)).toList = bytesOf (bytesB (fun _ => false) nb) := by rw [Nat.mul_one]; exact (toList_madeCells_one _ nb).trans (zero_bytes nb)
        have HZC := Lib.hid hzc
        clear hzc
        have HMS := Lib.hid (mark_start (H := Unit) (.agg []) ss (pl H S (8 * nb)))
        have HSD := Lib.hid (show SdS ss ss.length = setOf (.agg []) (ss.map keyS) from by unfold SdS; rw [List.take_length])
        rw [HSD.out] at HO HSZ
        generalize setOf (H := Unit) (.agg []) (ss.map keyS) = D at *
        go_wp2_with (first
          | (at_len; refine wpList_len_own _ rfl _ 312 rfl 9 297 Tryz.underlying312 (unitElem (H := Unit)) w1.heap.size _ _ rfl HO.out ?_; rw [HSZ.out])
          | (refine wpList_make_full _ rfl (.tmp 44) (.tmp 44) 23 rfl wo.heap.size 5 i0 (.int .u8 0) 1 Tryz.underlying23 hi hz0 hz1 .i64 .i64 _ _ nb rfl rfl (by have := HNB.out; omega) (by have := HNB.out; omega) (by rw [hz2]; omega) (by unfold maxLen; omega) (Nat.le_refl _) ?_; intro w2 hown hg; rw [HZC.out] at hown; have HO2 := Lib.hid hown; have HOM2 := Lib.hid (HO.out.kept hg (by simp)); have HB2 := Lib.hid (HBB.out.trans ((below_of_grown hg (fun g h => by cases h)).mono hsz)); clear hown hg)
          | (at_range; refine wpList_range_own _ rfl _ 312 rfl 9 297 (string_keyed Tryz.underlying9) Tryz.underlying312 (unitElem (H := Unit)) w1.heap.size _ _ rfl HOM2.out ?_; intro w3 hrg0 hg0 hs0; have HRG := Lib.hid hrg0; have HO3 := Lib.hid (HO2.out.kept hg0 (.inr (by simp [Value.ownBlock]))); have HB3 := Lib.hid (HB2.out.trans ((below_of_grown hg0 (fun g h => by cases h)).mono HB2.out.size)); clear hrg0 hg0 hs0))
        all_goals
          have hw2 : w1.heap.size < w2.heap.size := by have := HOM2.out.lt; exact this
          have hwr : w1.heap.size < wo.heap.size := HO.out.lt
          have hwr2 : wo.heap.size < w2.heap.size := (HO2.out.lt wo.heap.size rfl).2
          go_loopw [11] (fun _ wv => ∃ (left : Lit → Bool) (cnt : Nat) (f : Nat → Bool), wv.ranges Tryz.prog 9 (unitElem (H := Unit)) w1.heap.size w2.heap.size ss.length D left cnt ∧ (MarkL ss left ∧ MarkF ss left f (pl H S (8 * nb))) ∧
            wv.ownsRow wo.heap.size 5 1 (.slice (some ⟨wo.heap.size, 0, none⟩) nb nb) nb (bytesOf (bytesB f nb)) ∧ Below w1.heap.size w1 wv) (fun _ wv => wv.rangeLeft w1.heap.size w2.heap.size)
          case atStart => exact ⟨_, _, _, HRG.out, HMS.out, HO3.out, HB3.out⟩
          case round =>
            obtain ⟨wv, rfl⟩ : ∃ wv : World, wv = wr := ⟨_, rfl⟩
            obtain ⟨left, cnt, f, hrg, hmk, hob, hbv⟩ := hrel
            have HMK := Lib.hid hmk; have HOB := Lib.hid hob; have HBV := Lib.hid hbv; have HRV := Lib.hid hrg
            have hszv := hbv.size
            have hlv := (hob.lt wo.heap.size rfl).2
            clear hmk hob hbv hrg
            go_wp2_with (at_next; refine wpList_next_ranges (α := ByteArray) (β := Unit) _ rfl _ rfl 9 (string_keyed Tryz.underlying9) (unitElem (H := Unit)) Value.string (fun _ => Value.agg #[]) (fun key kl hk => by obtain ⟨s, e, _⟩ := keyOf_string_inv2 Tryz.underlying9 hk; exact ⟨s, e⟩) (fun v y hv => ⟨(), (unitElem_inv hv).1⟩) w1.heap.size w2.heap.size ss.length _ _ _ rfl HRV.out ?_ ?_)
            · intro hc0 hl0
              have HEQ := Lib.hid (show bytesB f nb = bytesB (setF H S (8 * nb) ss) nb from bytesB_congr nb (fun i => mark_end HMK.out.2 hl0 i))
              have hrun := run_own_string wo.heap.size wv (.slice (some ⟨wo.heap.size, 0, none⟩) nb nb) (bytesB f nb) (by rw [bytesB_length]; exact HOB.out)
              have HFB := Lib.hid (show (ByteArray.mk (bytesB f nb).toArray) = fbits H P S ss from by rw [HEQ.out]; unfold fbits; rw [HU.out, HRM.out])
              have HR5 := Lib.hid (HR1.out.below HBV.out)
              obtain ⟨e0, e1, e2, e3, s0, s1, t0, t1⟩ := (HR1.out.below HBV.out).cells
              clear hl0
              go_wp2
              obtain ⟨z0, z1, hbz⟩ := FilAt.done (k := 1) (b := ⟨(bytesB f nb).toArray⟩) HR5.out
              refine bodyPost_ret (v := .tuple #[.agg #[.int .i64 1, .string ⟨(bytesB f nb).toArray⟩], .int .i64 0]) (by simp [results, Tryz.results162, go_sem, z0, z1]) rfl ?_
              rw [HFB.out]
              exact mk_of HF.out (by rw [← HFB.out]; exact hbz)
            · intro x u kl y w4 cnt1 hkey hlx hRv hat hrg1 hlt hg1 hs1 hen
              obtain ⟨s, hse, hkl, hxz⟩ := keyOf_string_inv2 Tryz.underlying9 hkey
              obtain rfl : x = s := by simpa using hse
              subst hkl
              have HPX := Lib.hid (fun W => HPC.out x hxz W)
              have HLX := Lib.hid hlx
              have HRG4 := Lib.hid hrg1
              have HO4 := Lib.hid (HOB.out.kept hg1 (.inr (by simp [Value.ownBlock]; omega)))
              have HB4 := Lib.hid (HBV.out.trans (grown_bel hg1 hszv (by omega)))
              obtain ⟨e0, e1, e2, e3, s0, s1, t0, t1⟩ := (HR1.out.below HB4.out).cells
              clear hse hkey hlx hRv hat hrg1 hg1
              go_wp2_with (go_at_call 211; (with_reducible refine (HPX.out _).mono ?_); rintro r w5 ⟨v, rfl, hown5, hb5⟩; rw [pl_length] at hown5; obtain ⟨g, pc, rfl⟩ := own_some hown5 (by omega); have HV5 := Lib.hid hown5; have HB5 := Lib.hid (HB4.out.trans (hb5.mono HB4.out.size)); have HBL := Lib.hid hb5; clear hown5 hb5)
              have hgb := HV5.out.lt g rfl
              have hgw : wo.heap.size < g := by have := hs1; omega
              have HRG5 := Lib.hid (HRG4.out.kept (grown_none HBL.out) (by simp) (by simp))
              have HO5 := Lib.hid (HO4.out.kept (grown_none HBL.out) (.inr (by simp [Value.ownBlock])))
              have hPL := pl_lt (show 0 < 8 * nb by omega) (H := H) (seed := S) x
              have HPL := Lib.hid hPL
              have HTK := Lib.hid (fun j (h : j < (pl H S (8 * nb) x).length) => List.take_succ_eq_append_getElem h)
              have hpll := pl_length H S (8 * nb) x
              generalize hPX : pl H S (8 * nb) x = px at *
              have HPX2 := Lib.hid hPX
              have HPLL := Lib.hid hpll
              clear hPX hPL hpll
              have hs4 := HBL.out.size
              go_loopw [59] (fun i wq => ∃ j : Nat, j ≤ H ∧ i = .int .i64 j ∧ wq.ranges Tryz.prog 9 (unitElem (H := Unit)) w1.heap.size w2.heap.size ss.length D (fun z => left z && !z.sameKey (keyS x)) cnt1 ∧
                wq.ownsRow wo.heap.size 5 1 (.slice (some ⟨wo.heap.size, 0, none⟩) nb nb) nb (bytesOf (bytesB (fun i => f i || (px.take j).contains i) nb)) ∧ wq.ownsRow w4.heap.size 3 1 (.slice (some ⟨g, 0, none⟩) H pc) H (natsV px) ∧ Below w1.heap.size w1 wq) (fun i _ => H - (intOf i).toNat)
              case atStart => exact ⟨0, Nat.zero_le _, rfl, HRG5.out, by rw [bytesB_congr (g := f) nb (fun i => by simp)]; exact HO5.out, HV5.out, HB5.out⟩
              case round =>
                obtain ⟨j, hj, rfl, hrq, hoq, hvq, hbq⟩ := hrel
                have HRQ := Lib.hid hrq; have HOQ := Lib.hid hoq; have HVQ := Lib.hid hvq; have HBQ := Lib.hid hbq
                clear hrq hoq hvq hbq
                by_cases hlt2 : j < H
                · have hjl : j < px.length := by have := HPLL.out; omega
                  have HT2 := Lib.hid (HTK.out j hjl)
                  have hy := HPL.out _ (List.getElem_mem hjl)
                  have hcy := HVQ.out.cellAt j (by omega)
                  rw [show (natsV px)[j]? = some (.int .i64 (px[j] : Nat)) from by simp [natsV, hjl]] at hcy
                  generalize px[j] = y at *
                  have HQ := Lib.hid (byteQ (fun i => f i || (px.take j).contains i) (fun i => f i || (px.take (j + 1)).contains i) nb y (fun i => by rw [HT2.out]; simp [Bool.or_assoc]))
                  have hq8 : y / 8 < nb := by omega
                  have hr8 : y % 8 < 8 := by omega
                  have hdv : (y : Int) / 8 = ((y / 8 : Nat) : Int) := by omega
                  have hmd : (y : Int) % 8 = ((y % 8 : Nat) : Int) := by omega
                  have hsh : IntKind.u8.wrap ((2 : Int) ^ (y % 8)) = ((2 ^ (y % 8) : Nat) : Int) := pow_u8 _ hr8
                  have hm8 : 2 ^ (y % 8) < 256 := Nat.pow_lt_pow_right (n := 8) (by decide) hr8
                  have hcq := HOQ.out.cellAt (y / 8) (by omega)
                  rw [byteC _ nb _ hq8] at hcq
                  have hbl := byteB_lt (fun i => f i || (px.take j).contains i) (y / 8)
                  generalize byteB (fun i => f i || (px.take j).contains i) (y / 8) = bq at *
                  generalize y / 8 = q at *
                  generalize y % 8 = r at *
                  generalize 2 ^ r = m at hsh hm8 HQ
                  have hor : bits .or .u8 (bq : Int) (m : Int) = ((bq ||| m : Nat) : Int) := u8_or_nat bq m hbl hm8
                  have hfq := HOQ.out.frozenAt q
                  have HST := Lib.hid (HOQ.out.stored q (.int .u8 ((bq ||| m : Nat) : Int)))
                  rw [HQ.out] at HST
                  have HRQ6 := Lib.hid (HRQ.out.kept HST.out.2 (fun e => by have := Option.some.inj e; omega) (fun e => by have := Option.some.inj e; omega))
                  have HVQ6 := Lib.hid (HVQ.out.kept HST.out.2 (.inr (fun e => by simp [Value.ownBlock] at e; omega)))
                  have HB6 := Lib.hid (HBQ.out.setCell (p := ⟨wo.heap.size, q, none⟩) (Nat.le_of_lt hwr) (.int .u8 ((bq ||| m : Nat) : Int)))
                  have hq0 : (q : Int) < nb := by omega
                  go_wp2
                  go_region
                  go_wp2
                  go_roundw
                  case rel => exact ⟨j + 1, by omega, by go_num, HRQ6.out, HST.out.1, HVQ6.out, HB6.out.drew⟩
                  case measure => simp [intOf]; omega
                · obtain rfl : j = H := by omega
                  have HSTEP := Lib.hid (mark_step (g := fun i => f i || (px.take j).contains i) HMK.out.1 HMK.out.2 HLX.out (fun i => by rw [HPX2.out, List.take_of_length_le (by have := HPLL.out; omega)]))
                  go_wp2
                  go_roundw
                  case rel => exact ⟨_, cnt1, _, HRQ.out, HSTEP.out, HOQ.out, HBQ.out⟩
                  case measure => rw [HRQ.out.left_eq, HRV.out.left_eq]; exact hlt
theorem blMake (H P M : Int) (S : Nat) (hS : S < 4294967296) (a : Option Addr) (cap : Nat) (ss : List ByteArray) (hl : ss.length ≤ maxLen) (w : World) (hs : StrsAt w a ss) :
    Calls Tryz.prog 162 #[.agg #[.int .i64 H, .int .i64 P, .int .i64 M, .int .u32 S], .slice a ss.length cap] w (MkSaid (makeR H P M S ss) w) := by
  by_cases hc : chkR H P M = 0
  · have hz := chk_zero hc
    obtain ⟨h0, rfl⟩ := Int.eq_ofNat_of_zero_le (show 0 ≤ H by omega)
    obtain ⟨p0, rfl⟩ := Int.eq_ofNat_of_zero_le (show 0 ≤ P by omega)
    obtain ⟨m0, rfl⟩ := Int.eq_ofNat_of_zero_le (show 0 ≤ M by omega)
    exact blMake_good h0 p0 m0 S hc hS a cap ss hl w hs
  · exact blMake_bad H P M S hc a cap ss w
end Go.Proofs.YtbhfbdcmamodcaaGreatDoor
namespace Go.Proofs.YtbhfbdcmamodcaaGreatDoor
open Go.RowKit BlMath Go.Maps
def sA : ByteArray := ⟨#[97]⟩
def sB : ByteArray := ⟨#[98]⟩
theorem fbits_size (H P S : Nat) (l : List ByteArray) : (fbits H P S l).size = roomB (uniq l).length P := by
  unfold fbits
  show (bytesB _ _).toArray.size = _
  rw [List.size_toArray, bytesB_length]
def F1 : ByteArray := fbits 3 10 0 [sA, sA, sB]
end Go.Proofs.YtbhfbdcmamodcaaGreatDoor
namespace Go.Proofs.YtbhfbdcmamodcaaGreatDoor
open Go.RowKit BlMath Go.Maps
def NatsAt (w : World) (v : Value) (l : List Nat) : Prop := ∃ a c, v = .slice a l.length c ∧ ∀ i (h : i < l.length), ∃ g, a = some ⟨g, 0, none⟩ ∧ w.cell? ⟨g, i, none⟩ = some (.int .i64 (l[i] : Nat))
theorem NatsAt.below {w w' : World} {v : Value} {l : List Nat} (h : NatsAt w v l) (hb : Below w.heap.size w w') : NatsAt w' v l := by
  obtain ⟨a, c, rfl, ha⟩ := h
  exact ⟨a, c, rfl, fun i hi => by obtain ⟨g, e, hc⟩ := ha i hi; exact ⟨g, e, bl_cell hb hc⟩⟩
def SetAt (w : World) (q : Nat) (H P M S : Int) : Prop := w.cell? ⟨q, 0, none⟩ = some (.int .i64 H) ∧ w.cell? ⟨q, 1, none⟩ = some (.int .i64 P) ∧ w.cell? ⟨q, 2, none⟩ = some (.int .i64 M) ∧ w.cell? ⟨q, 3, none⟩ = some (.int .u32 S)
theorem SetAt.below {w w' : World} {q : Nat} {H P M S : Int} (h : SetAt w q H P M S) (hb : Below w.heap.size w w') : SetAt w' q H P M S := ⟨bl_cell hb h.1, bl_cell hb h.2.1, bl_cell hb h.2.2.1, bl_cell hb h.2.2.2⟩
theorem SetAt.grown {w w' : World} {q : Nat} {H P M S : Int} {row : Option Nat} (h : SetAt w q H P M S) (hg : w.grownBy w' row) (hne : some q ≠ row) : SetAt w' q H P M S :=
  ⟨hg.cell (a := ⟨q, 0, none⟩) h.1 hne, hg.cell (a := ⟨q, 1, none⟩) h.2.1 hne, hg.cell (a := ⟨q, 2, none⟩) h.2.2.1 hne, hg.cell (a := ⟨q, 3, none⟩) h.2.2.2 hne⟩
theorem own_bel {B e n : Nat} {w w' : World} {v : Value} {xs : List Value} (h : w.ownsRow B e 1 v n xs) (hb : Below w.heap.size w w') : w'.ownsRow B e 1 v n xs := h.kept (grown_none hb) (Classical.em _)
end Go.Proofs.YtbhfbdcmamodcaaGreatDoor
namespace Go.Proofs.YtbhfbdcmamodcaaGreatDoor
open Go.RowKit BlMath Go.Maps
theorem infoStr : (Tryz.prog.info? 9).map (fun i => (i.zero, i.size, i.bytes)) = some (some (.string ⟨#[]⟩), 1, 16) := by kernel_rfl
def strsV (l : List ByteArray) : List Value := l.map Value.string
theorem strsV_append (l m : List ByteArray) : strsV (l ++ m) = strsV l ++ strsV m := by simp [strsV]
end Go.Proofs.YtbhfbdcmamodcaaGreatDoor
namespace Go.Proofs.YtbhfbdcmamodcaaGreatDoor
open Go.RowKit BlMath Go.Maps
theorem fbits_len (H P S : Nat) (l : List ByteArray) : (fbits H P S l).size = roomB (uniq l).length P := fbits_size H P S l
theorem room_pos (u P : Nat) : 1 ≤ roomB u P := by unfold roomB; omega
end Go.Proofs.YtbhfbdcmamodcaaGreatDoor
namespace Go.Proofs.YtbhfbdcmamodcaaGreatDoor
open Go.RowKit BlMath Go.Maps
theorem strs_own {B : Nat} {w : World} {g c : Nat} {l : List ByteArray} (h : w.ownsRow B 9 1 (.slice (some ⟨g, 0, none⟩) l.length c) l.length (strsV l)) (hz : ∀ s ∈ l, s.size ≤ maxLen) : StrsAt w (some ⟨g, 0, none⟩) l := fun i hi => by
  refine ⟨hz _ (List.getElem_mem hi), g, 0, rfl, ?_⟩
  rw [Nat.zero_add, h.cellAt i (by omega)]
  simp [strsV, hi]
def BoxF (w : World) (q st : Nat) (b : ByteArray) : Prop := w.cell? ⟨q, 0, none⟩ = some (.int .i64 st) ∧ w.cell? ⟨q, 1, none⟩ = some (.string b)
theorem BoxF.below {w w' : World} {q st : Nat} {b : ByteArray} (h : BoxF w q st b) (hb : Below w.heap.size w w') : BoxF w' q st b := ⟨bl_cell hb h.1, bl_cell hb h.2⟩
end Go.Proofs.YtbhfbdcmamodcaaGreatDoor
