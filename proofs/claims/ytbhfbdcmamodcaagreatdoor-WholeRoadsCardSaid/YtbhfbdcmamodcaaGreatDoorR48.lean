/- The parents of a step. -/
import Derived.Test.YtbhfbdcmamodcaaGreatDoorR34
import Derived.Test.YtbhfbdcmamodcaaGreatDoorR44
set_option linter.unusedVariables false
set_option linter.unusedSimpArgs false
namespace Go.Proofs.YtbhfbdcmamodcaaGreatDoor
open Go.RowKit Go.Maps TrMath FrMath PackMath SumMath
def parStep (n : Nat) (acc : List Nat) (p : Nat) : List Nat := if n = 0 then acc else if acc.contains (n - 1 - p % n) then acc else acc ++ [n - 1 - p % n]
def parF (n : Nat) (bs : List Nat) : List Nat := (bs.take 16).foldl (parStep n) []
structure ParI (n i : Nat) (acc : List Nat) : Prop where
  len : acc.length ≤ i
  low : ∀ p ∈ acc, p < n
  alone : acc.Nodup
theorem par_step {n i : Nat} {acc : List Nat} (h : ParI n i acc) (p : Nat) : ParI n (i + 1) (parStep n acc p) := by
  unfold parStep
  split
  · exact ⟨Nat.le_succ_of_le h.len, h.low, h.alone⟩
  · split
    · exact ⟨Nat.le_succ_of_le h.len, h.low, h.alone⟩
    · rename_i h0 h1
      refine ⟨by rw [List.length_append]; have := h.len; simp; omega, fun q hq => ?_, ?_⟩
      · rcases List.mem_append.1 hq with hq | hq
        · exact h.low q hq
        · rw [List.mem_singleton.1 hq]; omega
      · rw [List.nodup_append]
        refine ⟨h.alone, by simp, fun a ha b hb e => ?_⟩
        rw [List.mem_singleton] at hb
        subst hb; subst e
        exact h1 (List.elem_eq_true_of_mem ha)
theorem par_all (n : Nat) : ∀ (bs : List Nat) (i : Nat) (acc : List Nat), ParI n i acc → ParI n (i + bs.length) (bs.foldl (parStep n) acc)
  | [], i, acc, h => h
  | p :: r, i, acc, h => by
    have := par_all n r (i + 1) _ (par_step h p)
    rw [List.length_cons, List.foldl_cons]
    rw [show i + (r.length + 1) = i + 1 + r.length from by omega]
    exact this
theorem parF_ok (n : Nat) (bs : List Nat) : (parF n bs).length ≤ 16 ∧ (∀ p ∈ parF n bs, p < n) ∧ (parF n bs).Nodup := by
  have h := par_all n (bs.take 16) 0 [] ⟨by simp, by simp, by simp⟩
  exact ⟨by have := h.len; rw [List.length_take] at this; unfold parF; omega, h.low, h.alone⟩
def seenV (n : Nat) (acc : List Nat) : List Value := (List.range n).map fun j => .bool (acc.contains j)
theorem seen_at {n k : Nat} (acc : List Nat) (h : k < n) : (seenV n acc)[k]? = some (.bool (acc.contains k)) := by simp [seenV, h]
theorem seen_set {n k : Nat} (acc : List Nat) (h : k < n) : (seenV n acc).set k (.bool true) = seenV n (acc ++ [k]) := by
  apply List.ext_getElem
  · simp [seenV]
  · intro i h1 h2
    simp only [seenV, List.getElem_map, List.getElem_range, List.getElem_set]
    by_cases e : k = i
    · subst e; simp
    · rw [if_neg e]
      congr 1
      rw [Bool.eq_iff_iff]
      simp
      omega
theorem seen_nil (n : Nat) : List.replicate n (Value.bool false) = seenV n [] := by
  apply List.ext_getElem
  · simp [seenV]
  · intro i h1 h2
    simp [seenV]
theorem infoBoolZ : (Tryz.prog.info? 4).map (fun i => (i.zero, i.size, i.bytes)) = some (some (.bool false), 1, 1) := by kernel_rfl
theorem row_cell {w : World} {B e g n cap : Nat} {xs : List Value} (h : w.ownsRow B e 1 (.slice (some ⟨g, 0, none⟩) n cap) n xs) {k : Nat} {u : Value} (hu : xs[k]? = some u) : w.cell? ⟨g, k, none⟩ = some u ∧ w.frozen? ⟨g, k, none⟩ = false := by
  rcases h.2 with ⟨h', _⟩ | ⟨g', cap', cur, h', _, hg, hn, hm, hsz, htk⟩
  · simp at h'
  · cases h'
    refine ⟨?_, frozen_of_row w _ k cur e hg⟩
    rw [cell_of_row w g k _ _ _ hg]
    rw [← htk, List.getElem?_take] at hu
    split at hu
    · simpa using hu
    · cases hu
set_option maxHeartbeats 4000000 in
set_option maxRecDepth 100000 in
theorem zParents (tv : Value) (pa : Option Addr) (pc : Nat) (bs : List Nat) (hb8 : ∀ p ∈ bs, p < 256) (hpl : bs.length ≤ pc) (hpm : pc ≤ maxLen) (idx nm at_ : Int) (n : Nat) (hn : n ≤ 100000) (w : World) (hp : CellsAt w pa (bs.map fun p => .int .u8 (p : Nat))) :
    Calls Tryz.prog 11 #[.agg #[tv, .slice pa bs.length pc, .int .u8 idx, .int .u8 nm, .int .u16 at_], .int .i64 (n : Nat)] w fun e w' => ∃ v, e = .returned v ∧ OwnX 3 1 natV w' w.heap.size v (parF n bs) ∧ Below w.heap.size w w' := by
  obtain ⟨i0, hi, hz0, hz1, hz2⟩ := info_parts infoIntX
  obtain ⟨j0, hj, hy0, hy1, hy2⟩ := info_parts infoBoolZ
  obtain ⟨W1, hW1⟩ : ∃ W1, w.alloc (.cells #[tv, .slice pa bs.length pc, .int .u8 idx, .int .u8 nm, .int .u16 at_] 37) = W1 := ⟨_, rfl⟩
  have hb1 : Below w.heap.size w W1 := by rw [← hW1]; exact bl_alloc (Below.refl _ w) _
  have hs1 : W1.heap[w.heap.size]? = some (.cells #[tv, .slice pa bs.length pc, .int .u8 idx, .int .u8 nm, .int .u16 at_] 37 (0, 0)) := by rw [← hW1]; exact heap_alloc_new _ _
  have hz1w : W1.heap.size = w.heap.size + 1 := by rw [← hW1]; simp
  obtain ⟨m, hm⟩ : ∃ m, min bs.length 16 = m := ⟨_, rfl⟩
  have hml : m ≤ bs.length := by omega
  have hm16 : m ≤ 16 := by omega
  have hmI : min (bs.length : Int) 16 = (m : Int) := by omega
  have hmIf : (if (bs.length : Int) ≤ 16 then (bs.length : Int) else 16) = (m : Int) := by split <;> omega
  have hpml : pc ≤ 9223372036854775807 := hpm
  have hzc : (madeCells (Value.bool false).cells (n * 1)).toList = seenV n [] := by rw [Nat.mul_one]; exact (toList_madeCells_one _ n).trans (seen_nil n)
  have HZC := Lib.hid hzc
  have HM := Lib.hid hm
  have c1 : W1.cell? ⟨w.heap.size, 1, none⟩ = some (.slice pa bs.length pc) := by rw [cell_of_row _ _ _ _ _ _ hs1]; rfl
  have HW1 := Lib.hid hW1; have HB1 := Lib.hid hb1; have HP := Lib.hid (hp.below hb1); have HZ1 := Lib.hid hz1w; have HB8 := Lib.hid hb8
  obtain ⟨w2, hmk, hown2, hg2⟩ := run_make_full (P := Tryz.prog) W1 W1.heap.size 61 4 j0 (.bool false) 1 Tryz.underlying61 hj hy0 hy1 .i64 .i64 n (by rw [hy2]; omega) (by unfold maxLen; omega) (Nat.le_refl _)
  rw [hzc] at hown2
  have HO2 := Lib.hid hown2; have HB2 := Lib.hid (below_of_grown hg2 (fun g h => by cases h)); have c2 := keep_grown hg2 c1 (by simp)
  clear hW1 hb1 hs1 hz1w hp hzc hm hb8 hown2 hg2
  go_enter Tryz.func11, Tryz.ntmps11
  go_wp2_with fail
  rw [HW1.out]
  go_wp2_with fail
  rw [hmk]
  go_wp2_with fail
  have hwz : W1.heap.size < w2.heap.size := (HO2.out.lt W1.heap.size rfl).2
  go_loopw [5, 20] (fun lv iv wr => ∃ (i : Nat) (v : Value), v = lv ∧ i ≤ m ∧ iv = .int .i64 i ∧ OwnX 3 1 natV wr (W1.heap.size + 1) v ((bs.take i).foldl (parStep n) []) ∧ wr.ownsRow W1.heap.size 4 1 (.slice (some ⟨W1.heap.size, 0, none⟩) n n) n (seenV n ((bs.take i).foldl (parStep n) [])) ∧ Below W1.heap.size W1 wr) (fun _ iv _ => m - (intOf iv).toNat)
  case atStart => exact ⟨0, _, rfl, Nat.zero_le _, rfl, OwnX.nil _ _ _ _ _, HO2.out, HB2.out⟩
  case round =>
    obtain ⟨i, v, hv, hi2, rfl, hown, hseen, hbel⟩ := hrel
    subst hv
    obtain ⟨wq, hwq⟩ : ∃ wq : World, wq = wr := ⟨_, rfl⟩
    subst hwq
    have HO := Lib.hid hown; have HS := Lib.hid hseen; have HB := Lib.hid hbel
    clear hown hseen hbel
    by_cases hlt : i < m
    · have hlb : i < bs.length := by omega
      have hp8 := HB8.out _ (List.getElem_mem hlb)
      have HT := Lib.hid (show (bs.take (i + 1)).foldl (parStep n) [] = parStep n ((bs.take i).foldl (parStep n) []) bs[i] from by rw [List.take_succ_eq_append_getElem hlb, List.foldl_append]; rfl)
      have HI := Lib.hid (par_all n (bs.take i) 0 [] ⟨by simp, by simp, by simp⟩)
      obtain ⟨b, off, rfl, _, hc⟩ := (HP.out.below HB.out) i (.int .u8 (bs[i] : Nat)) (by rw [List.getElem?_map, List.getElem?_eq_getElem hlb]; rfl)
      generalize bs[i] = pb at *
      generalize hacc : (bs.take i).foldl (parStep n) [] = acc at *
      clear hacc
      have hal : acc.length ≤ 16 := by have := HI.out.len; rw [List.length_take] at this; omega
      obtain ⟨va, vc, rfl, _, hvc, hvm, _, _⟩ := HO.out.sl
      by_cases hn0 : n = 0
      · have hdn : decide ((n : Int) > 0) = false := by rw [decide_eq_false_iff_not]; omega
        have hdn2 : decide ((0 : Int) < (n : Int)) = false := by rw [decide_eq_false_iff_not]; omega
        have hdn3 : decide (0 < n) = false := by rw [decide_eq_false_iff_not]; omega
        have HTT := Lib.hid (show parStep n acc pb = acc from by unfold parStep; rw [if_pos hn0])
        go_wp2
        go_roundw
        case rel => exact ⟨i + 1, _, rfl, by omega, by go_num, by rw [HT.out, HTT.out]; exact HO.out, by rw [HT.out, HTT.out]; exact HS.out, HB.out⟩
        case measure => simp [intOf]; omega
      · have hdn : decide ((n : Int) > 0) = true := decide_eq_true (by omega)
        have hdn2 : decide ((0 : Int) < (n : Int)) = true := decide_eq_true (by omega)
        have hdn3 : decide (0 < n) = true := decide_eq_true (by omega)
        have hnz : ((n : Int) == 0) = false := by rw [beq_eq_false_iff_ne]; omega
        have hnz2 : ¬ (n : Int) = 0 := by omega
        obtain ⟨k, hk⟩ : ∃ k, n - 1 - pb % n = k := ⟨_, rfl⟩
        have hmod : pb % n < n := Nat.mod_lt _ (by omega)
        have hkn : k < n := by omega
        have hw1 : IntKind.i64.wrap ((n : Int) - 1) = ((n - 1 : Nat) : Int) := by rw [IntWalk.i64_in _ (by omega)]; omega
        have hwp : IntKind.i64.wrap (pb : Int) = (pb : Int) := IntWalk.i64_in _ (by omega)
        have hrm : (pb : Int).tmod (n : Int) = ((pb % n : Nat) : Int) := by rw [Int.tmod_eq_emod_of_nonneg (by omega)]; exact (Int.natCast_emod pb n).symm
        have hwm : IntKind.i64.wrap ((pb % n : Nat) : Int) = ((pb % n : Nat) : Int) := IntWalk.i64_in _ (by omega)
        have hw2 : IntKind.i64.wrap (((n - 1 : Nat) : Int) - ((pb % n : Nat) : Int)) = (k : Int) := by rw [IntWalk.i64_in _ (by omega)]; omega
        have hw3 : ((n - 1 : Nat) : Int) - (pb : Int) % (n : Int) = (k : Int) := by have : (pb : Int) % (n : Int) = ((pb % n : Nat) : Int) := (Int.natCast_emod pb n).symm; omega
        have hw4 : IntKind.i64.wrap (((n - 1 : Nat) : Int) - (pb : Int) % (n : Int)) = (k : Int) := by rw [hw3]; exact IntWalk.i64_in _ (by omega)
        have hw5 : IntKind.i64.wrap ((pb : Int) % (n : Int)) = (pb : Int) % (n : Int) := by have : (pb : Int) % (n : Int) = ((pb % n : Nat) : Int) := (Int.natCast_emod pb n).symm; exact IntWalk.i64_in _ (by omega)
        have HK := Lib.hid hk
        by_cases hin : acc.contains k = true
        · have HTT := Lib.hid (show parStep n acc pb = acc from by unfold parStep; rw [if_neg hn0, hk, if_pos hin])
          obtain ⟨s1, s2⟩ := row_cell HS.out (k := k) (u := .bool true) (by rw [seen_at acc hkn, hin])
          clear hk
          go_wp2
          go_roundw
          case rel => exact ⟨i + 1, _, rfl, by omega, by go_num, by rw [HT.out, HTT.out]; exact HO.out, by rw [HT.out, HTT.out]; exact HS.out, HB.out⟩
          case measure => simp [intOf]; omega
        · have hin' : acc.contains k = false := by simpa using hin
          have HTT := Lib.hid (show parStep n acc pb = acc ++ [k] from by unfold parStep; rw [if_neg hn0, hk, if_neg hin])
          obtain ⟨s1, s2⟩ := row_cell HS.out (k := k) (u := .bool false) (by rw [seen_at acc hkn, hin'])
          have hset := World.ownsRow.stored HS.out k (.bool true)
          rw [seen_set acc hkn] at hset
          have HS2 := Lib.hid hset
          have HO2' := Lib.hid (show OwnX 3 1 natV (wq.setCell ⟨W1.heap.size, k, none⟩ (.bool true)) (W1.heap.size + 1) (.slice va acc.length vc) acc from HO.out.stays fun g e => hset.2.block g (HO.out.lt g e).2 (fun e2 => by have := (HO.out.lt g e).1; have := Option.some.inj e2; omega))
          have HBs := Lib.hid (HB.out.setCell (p := ⟨W1.heap.size, k, none⟩) (Nat.le_refl _) (.bool true))
          have HQZ := Lib.hid hset.2.size
          have HQE := Lib.hid (show (wq.setCell ⟨W1.heap.size, k, none⟩ (.bool true)).heap.size = wq.heap.size from by simp [World.setCell])
          clear hk hset
          go_wp2_with (at_builtin; refine wpList_append_lies _ rfl (.tmp 41) (.tmp 43) 42 rfl (W1.heap.size + 1) 3 i0 (.int .i64 0) 1 8 Tryz.underlying42 hi hz0 hz1 hz2 rfl (by decide) (.slice va acc.length vc) acc.length (acc.flatMap natV) rfl (HO2'.out.below (bl_alloc (Below.refl _ _) _)) _ 1 1 [.int .i64 (k : Nat)] rfl rfl (cells_new _ [.int .i64 (k : Nat)] _ (by simp)) (by intro u hu; rw [List.mem_singleton.1 hu]; rfl) (by decide) (by unfold maxLen; omega) (by omega) (by have := HQE.out; have := HB.out.size; simp; omega) _ rfl ?_; intro gg cp w7 hown hg hat hlt7; have HU7 := Lib.hid (OwnX.push (enc := natV) (m := [k]) hown rfl rfl); have HS7 := Lib.hid (row_stays (HS2.out.1) (x := w7) (fun g e => by rw [hg.block g (by have := (HS2.out.1.lt g e).2; have := HQE.out; simp; omega) (fun e2 => by have h1 := (HO2'.out.lt g e2.symm).1; simp [Value.ownBlock] at e; omega)]; exact Below.heap_alloc _ _ _ (HS2.out.1.lt g e).2)); have HB7 := Lib.hid (bel_grown HBs.out HBs.out.size (bl_alloc (Below.refl _ _) _) hg (fun j hj => by have := (HO2'.out.lt j hj).1; omega)); clear hown hg hat hlt7)
          go_roundw
          case rel => exact ⟨i + 1, _, rfl, by omega, by go_num, by rw [HT.out, HTT.out]; exact HU7.out, by rw [HT.out, HTT.out]; exact HS7.out, HB7.out⟩
          case measure => simp [intOf]; omega
    · obtain rfl : i = m := by omega
      go_wp2
      go_ret
      refine ⟨_, rfl, ?_, HB1.out.trans (HB.out.mono HB1.out.size)⟩
      have hh := HO.out
      have e : (bs.take i).foldl (parStep n) [] = parF n bs := by
        unfold parF
        rw [← HM.out]
        rcases Nat.le_total bs.length 16 with h | h
        · rw [Nat.min_eq_left h, List.take_of_length_le (Nat.le_refl _), List.take_of_length_le h]
        · rw [Nat.min_eq_right h]
      rw [e] at hh
      exact hh.mono (by have := HZ1.out; omega)
end Go.Proofs.YtbhfbdcmamodcaaGreatDoor
