/- Walks of layer 8: an entry taken out of a row of one's own. -/
import Derived.Test.YtdjpmgkcgpkkmaaTrPt
import Derived.Deep.RegionLaw
import Derived.Lib.SliceRun
set_option linter.unusedVariables false
set_option linter.unusedSimpArgs false
namespace Go.Proofs.Ytdjpmgkcgpkkmaa
open Go.RowKit TrMath

/-- Cells of a block of one's own: there, and not frozen. -/
theorem OwnB.spot {w : World} {B g cap : Nat} {l : Ents} (h : OwnB w B g cap l) {o : Nat} (ho : o < cap * 2) : (w.cell? ⟨g, o, none⟩).isSome = true ∧ w.frozen? ⟨g, o, none⟩ = false := by
  obtain ⟨cur, hB, hh, hn, hm, hs, ht⟩ := h
  have hlt : o < cur.size := by rw [hs]; exact ho
  exact ⟨by simp [World.cell?, hh, hlt], by simp [World.frozen?, hh]⟩
/-- Writing behind what is kept. -/
theorem OwnB.behind {w : World} {B g cap o : Nat} {l : Ents} {vs : List Value} (h : OwnB w B g cap l) (ho : l.length * 2 ≤ o) (hv : o + vs.length ≤ cap * 2) : OwnB (w.setCells g o vs) B g cap l := by
  obtain ⟨cur, hB, hh, hn, hm, hs, ht⟩ := h
  obtain ⟨cur', h1, h2⟩ := setCells_block g _ vs o cur w hh (by rw [hs]; exact hv)
  have hc : cur'.size = cap * 2 := by rw [← Array.length_toList, h2]; simp [hs]; omega
  refine ⟨cur', hB, h1, hn, hm, hc, ?_⟩
  have hcl : cur.toList.length = cap * 2 := by rw [Array.length_toList, hs]
  rw [h2, List.append_assoc, List.take_append_of_le_length (by rw [List.length_take, hcl]; omega), List.take_take, Nat.min_eq_left ho]
  exact ht
section
variable {ops : Array Oper} {rest : List Oper} {o : Oper} {a : Act} {Q : Exit → Act → World → Prop}
/-- append where there is room, as a step of a region that draws. -/
theorem step_room {K : Act → World → Prop} {E : Prop} (w : World) (hg : o.guard = none) (s x : Operand) (hop : o.op = Op.call { callee := Callee.builtin Builtin.append, args := #[s, x], argTypes := #[22, 22] })
    (B g cap n : Nat) (l : Ents) (hs : a.eval s = .slice (some ⟨g, 0, none⟩) n cap) (hn : l.length = n) (h : OwnB w B g cap l) (xv : Value) (hx : a.eval x = xv) (m : Nat) (xs : Ents) (hm : xs.length = m)
    (hsrc : Src Try.prog 2 22 xv m (enCells xs) w) (hroom : n + m ≤ cap)
    (hK : ∀ w1, OwnB w1 B g cap (l ++ xs) → w.grownBy w1 (some g) → w1.heap.size = w.heap.size → K (a.put o.dst (.slice (some ⟨g, 0, none⟩) (n + m) cap)) w1) :
    if Region.wanted o (yielded ops a.tmps) = true then Oper.wp Try.prog o a w K Q else E := by
  have hw : Region.wanted o (yielded ops a.tmps) = true := by simp [Region.wanted, hg]
  rw [if_pos hw]
  obtain ⟨i0, hi, hz0, hz1, hz2⟩ := info_parts infoEntry
  subst hn hm
  have hp := h.push (xs := xs) hroom
  have hcell : ∀ j, j < (enCells xs).length → (w.cell? ⟨g, 0 + l.length * i0.size + j, none⟩).isSome = true := fun j hj => by
    rw [enCells_len] at hj
    rw [hz1, Nat.zero_add]
    exact (h.spot (by omega)).1
  have hfz : ∀ j, j < (enCells xs).length → w.frozen? ⟨g, 0 + l.length * i0.size + j, none⟩ = false := fun j hj => by
    rw [enCells_len] at hj
    rw [hz1, Nat.zero_add]
    exact (h.spot (by omega)).2
  have hrun := run_append_room_src (P := Try.prog) (w := w) 22 22 o.type 39 i0 Try.underlying22 hi g 0 l.length cap xv xs.length (enCells xs) (by rw [hz1]; exact hsrc) hroom hcell hfz
  rw [hz1, Nat.zero_add] at hrun
  unfold Oper.wp
  simp [execOp, hop, resolve, invoke, builtin, hs, hx, hrun, Result.andThen]
  exact hK _ hp (setCells_grown _ _ _ _) (setCells_size _ _ _ _).1
/-- clear of one entry behind what is kept. -/
theorem wpList_clear1 (w : World) (hg : o.guard = none) (x : Operand) (hop : o.op = Op.call { callee := Callee.builtin Builtin.clear, args := #[x], argTypes := #[22] })
    (B g cap k c : Nat) (l : Ents) (h : OwnB w B g cap l) (hl : l.length = k) (hk : k < cap) (hx : a.eval x = .slice (some ⟨g, k * 2, none⟩) 1 c)
    (hK : ∀ w1, OwnB w1 B g cap l → w.grownBy w1 (some g) → wpList Try.prog ops Q rest (a.put o.dst (.tuple #[])) w1) : wpList Try.prog ops Q (o :: rest) a w := by
  obtain ⟨i0, hi, hz0, hz1, hz2⟩ := info_parts infoEntry
  subst hl
  refine wpList_plain hg fun K hK' => ?_
  have hst := run_storeCells_cells (P := Try.prog) g (l.length * 2) [Value.string ⟨#[]⟩, .int .u32 0] 0 w (fun j hj => by simp at hj; exact (h.spot (by omega)).1) (fun j hj => by simp at hj; exact (h.spot (by omega)).2) (one_pair _ _)
  simp only [Nat.add_zero] at hst
  have hzc : (Builtin.zeroCells (Value.agg #[.string ⟨#[]⟩, .int .u32 0]).cells 1).toList = [Value.string ⟨#[]⟩, .int .u32 0] := by kernel_rfl
  have hrun : (Builtin.clear_ #[22] o.type #[.slice (some ⟨g, l.length * 2, none⟩) 1 c]).run Try.prog w = .ok (.tuple #[]) (w.setCells g (l.length * 2) [Value.string ⟨#[]⟩, .int .u32 0]) := by
    simp only [Builtin.clear_]
    simp [run_underlying Try.underlying22, zeroValue, typeInfo, hi, hz0, hzc, hst]
  unfold Oper.wp
  simp [execOp, hop, resolve, invoke, builtin, hx, hrun, Result.andThen]
  exact hK' _ _ (hK _ (h.behind (Nat.le_refl _) (by simp; omega)) (setCells_grown _ _ _ _))
end

theorem src_tail' {w : World} {g cc n o : Nat} {l : Ents} (h : EnAt w (some ⟨g, 0, none⟩) l) (k : Nat) (hn : (l.drop k).length = n) (ho : o = k * 2) : Src Try.prog 2 22 (.slice (some ⟨g, o, none⟩) n cc) n (enCells (l.drop k)) w := by
  subst ho
  have := src_tail (cc := cc) h k hn
  rw [Nat.zero_add] at this
  exact this
set_option maxHeartbeats 2000000 in
set_option maxRecDepth 100000 in
theorem tDelete (l : Ents) (i : Nat) (hil : i < l.length) (B g cap : Nat) (hl : l.length ≤ 1099511627776) (w : World) (h : OwnB w B g cap l) :
    Calls Try.prog 52 #[.slice (some ⟨g, 0, none⟩) l.length cap, .int .i64 i, .int .i64 ((i + 1 : Nat) : Int)] w fun e w' => e = .returned (.slice (some ⟨g, 0, none⟩) (l.length - 1) cap) ∧ OwnB w' B g cap (l.take i ++ l.drop (i + 1)) ∧ w.grownBy w' (some g) := by
  have hnc : l.length ≤ cap := by obtain ⟨_, _, _, hn, _⟩ := h; exact hn
  have hcm : cap ≤ maxLen := by obtain ⟨_, _, _, _, hm, _⟩ := h; exact hm
  unfold maxLen at hcm
  obtain ⟨z, hz⟩ : ∃ z, l.length = z + 1 := ⟨l.length - 1, by omega⟩
  have HO := Lib.hid h
  have HTk := Lib.hid (h.take i)
  have HTL := Lib.hid (show (l.take i).length = i by rw [List.length_take]; omega)
  have HDL := Lib.hid (show (l.drop (i + 1)).length = z - i by rw [List.length_drop]; omega)
  have HA := Lib.hid h.at
  rw [hz]
  rw [hz] at hnc hil hl
  have hne : ((i : Int) == (i : Int) + 1) = false := by rw [beq_eq_false_iff_ne]; omega
  have hi1 : (i : Int) + 1 ≤ (z : Int) + 1 := by omega
  have hi2 : (0 : Int) ≤ (i : Int) + 1 := by omega
  have hi3 : ((i : Int) + 1).toNat = i + 1 := by omega
  have hiz : i ≤ z := by omega
  have hic : i ≤ cap := by omega
  have hicz : (i : Int) ≤ (cap : Int) := by omega
  have hii : (i : Int) ≤ (i : Int) + 1 := by omega
  have hi1c : (i : Int) + 1 ≤ (cap : Int) := by omega
  have hzs : i + (z - i) = z := by omega
  have hsub : z + 1 - (i + 1) = z - i := by omega
  have hsub2 : z + 1 - z = 1 := by omega
  have HLN := Lib.hid (show (l.take i ++ l.drop (i + 1)).length = z by rw [List.length_append, HTL.out, HDL.out]; omega)
  clear h hz
  by_cases hce : cap = i + 1
  · subst hce
    obtain rfl : i = z := by omega
    go_enter Try.func52, Try.ntmps52
    go_wp2
    go_region_law (refine step_room _ rfl (.tmp 22) (.tmp 25) rfl B g (i + 1) i (l.take i) rfl HTL.out (HTk.out.below (bl_drew (Below.refl _ w))) _ rfl _ [] (by first | rfl | (show 0 = _; omega)) (src_end (by omega)) (by omega) ?_; intro w1 hB hb hs; have HB1 := Lib.hid hB; have HG1 := Lib.hid (show w.grownBy w1 (some g) from ⟨hb.os, hb.tape, hb.output, hb.size, hb.block⟩); clear hB hb hs)
    all_goals
      rw [List.append_nil] at HB1
      go_wp2_with (refine wpList_clear1 _ rfl _ rfl B g (i + 1) i _ _ HB1.out HTL.out (by omega) rfl ?_; intro w2 hB hb; have HB2 := Lib.hid hB; have HG2 := Lib.hid (gb_trans HG1.out hb (fun i hi => .inl hi)); clear hB hb)
      go_ret
      refine ⟨by simp, ?_, HG2.out⟩
      have hdn : l.drop (i + 1) = [] := List.eq_nil_of_length_eq_zero (by have := HDL.out; omega)
      rw [hdn, List.append_nil]
      exact HB2.out
  · go_enter Try.func52, Try.ntmps52
    go_wp2
    go_region_law (refine step_room _ rfl (.tmp 22) (.tmp 25) rfl B g cap i (l.take i) rfl HTL.out (HTk.out.below (bl_drew (Below.refl _ w))) _ rfl (z - i) (l.drop (i + 1)) HDL.out (src_tail' (HA.out.below (bl_drew (Below.refl _ w))) (i + 1) HDL.out (by omega)) (by omega) ?_; intro w1 hB hb hs; have HB1 := Lib.hid hB; have HG1 := Lib.hid (show w.grownBy w1 (some g) from ⟨hb.os, hb.tape, hb.output, hb.size, hb.block⟩); clear hB hb hs)
    all_goals
      go_wp2_with (refine wpList_clear1 _ rfl _ rfl B g cap z _ _ HB1.out HLN.out (by omega) rfl ?_; intro w2 hB hb; have HB2 := Lib.hid hB; have HG2 := Lib.hid (gb_trans HG1.out hb (fun i hi => .inl hi)); clear hB hb)
      go_ret
      exact ⟨by simp, HB2.out, HG2.out⟩
end Go.Proofs.Ytdjpmgkcgpkkmaa
