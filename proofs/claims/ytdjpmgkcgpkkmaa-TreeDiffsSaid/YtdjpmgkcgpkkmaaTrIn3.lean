/- Walks of layer 8: slices.Insert of one entry where there is no room. -/
import Derived.Test.YtdjpmgkcgpkkmaaTrIn2
import Derived.Deep.Cut
set_option linter.unusedVariables false
set_option linter.unusedSimpArgs false
namespace Go.Proofs.Ytdjpmgkcgpkkmaa
open Go.RowKit TrMath

theorem bl_drew' {w x : World} {B : Nat} (h : Below B w x) : Below B w x.drew := h.drew
theorem run_append_zeros_en {w : World} {B g n i k : Nat} {l : Ents} {ty : TypeId} (h : OwnB w B g n l) (hB : B ≤ w.heap.size) (hl : l.length = n) (hi : i ≤ n) (hk : i + k = n + 1) (hn : n ≤ 1099511627776) :
    ∃ cap w1, (Builtin.append_ #[22, 3] ty #[.slice (some ⟨g, 0, none⟩) i n, .int .i64 (k : Int)]).run Try.prog w = .ok (.slice (some ⟨w.heap.size, 0, none⟩) (n + 1) cap) w1 ∧
      OwnB w1 B w.heap.size cap (l.take i ++ List.replicate k zE) ∧ Below w.heap.size w w1 ∧ n + 1 ≤ cap := by
  obtain ⟨i0, hi0, hz0, hz1, hz2⟩ := info_parts infoEntry
  have hge := grownCap_ge w (n + 1) n 39
  have hcm : grownCap w (n + 1) n 39 ≤ maxLen := grownCap_le_maxLen w (n + 1) n 39 (by unfold maxLen; omega)
  have hT : (l.take i).length = i := by rw [List.length_take]; omega
  have hOd : OwnB w.drew B g n (l.take i) := (h.below (bl_drew (Below.refl _ w))).take i
  have hf := run_firstCells_some (P := Try.prog) w.drew 2 i ⟨g, 0, none⟩ i n (enCells (l.take i)) (by rw [enCells_len, hT]) hOd.at.cells
  have hk0 : k ≠ 0 := by omega
  have hw : IntKind.i64.wrap (k : Int) = k := IntWalk.i64_in _ (by omega)
  have hnr : ¬ (i + k ≤ n) := by omega
  have h63 : ¬ (9223372036854775807 < ((i : Int) + (k : Int))) := by omega
  have hnext := nextslicecap_le (need := n + 1) (old := n) (by omega)
  have h48 : ¬ (281474976710656 < Builtin.nextslicecap (n + 1) n * 24) := by omega
  have h48i : ¬ (281474976710656 < (k : Int) * 24) := by omega
  have hneg : ¬ ((k : Int) < 0) := by omega
  have hks : ¬ (k * 2 = 0) := by omega
  refine ⟨grownCap w (n + 1) n 39, w.drew.alloc (.cells ((enCells (l.take i)).toArray ++ Builtin.zeroCells (Value.agg #[.string ⟨#[]⟩, .int .u32 0]).cells k ++ Builtin.zeroCells (Value.agg #[.string ⟨#[]⟩, .int .u32 0]).cells (grownCap w (n + 1) n 39 - (n + 1))) 39), ?_, ?_, (bl_drew (Below.refl _ w)).alloc (Nat.le_refl _) _, hge⟩
  · simp [Builtin.append_, run_underlying Try.underlying22, run_underlying Try.underlying3, sizeOf, typeInfo, zeroValue, hi0, hz0, hz1, hz2, asInt, asIntOf, hw, hneg, h48i, hk, hnr, h63, h48, hk0, hks, Question.forced, hf, newRow, grownCap]
    intro hh
    omega
  · have hlen : (l.take i ++ List.replicate k zE).length = n + 1 := by rw [List.length_append, hT, List.length_replicate, hk]
    refine ⟨_, hB, heap_alloc_new w.drew _, by rw [hlen]; exact hge, hcm, ?_, ?_⟩
    · simp only [Array.size_append, List.size_toArray, size_zeroCells, enCells_len, hT]
      show i * 2 + k * 2 + _ * 2 = _ * 2
      omega
    · simp only [Array.toList_append]
      rw [zeros_cells, ← enCells_append, hlen]
      have e : (enCells (l.take i ++ List.replicate k zE)).length = (n + 1) * 2 := by rw [enCells_len, hlen]
      rw [← e]
      exact List.take_left

set_option maxHeartbeats 4000000 in
set_option maxRecDepth 100000 in
theorem tInsertFull (l : Ents) (i : Nat) (hil : i < l.length) (B g : Nat) (p : ByteArray) (u : Int) (x : Nat) (hl : l.length ≤ 1099511627776) (w : World) (h : OwnB w B g l.length l) (hB : B ≤ w.heap.size) (hx : w.heap[x]? = some (.cells #[.string p, .int .u32 u] 39 (0, 0))) :
    Calls Try.prog 53 #[.slice (some ⟨g, 0, none⟩) l.length l.length, .int .i64 i, .slice (some ⟨x, 0, none⟩) 1 1] w (InsSaid B l i p u w) := by
  obtain ⟨n, hn⟩ : ∃ n, l.length = n := ⟨_, rfl⟩
  rw [hn] at hil hl h
  rw [hn]
  have hn2 : ((i : Int) == (n : Int)) = false := by rw [beq_eq_false_iff_ne]; omega
  have hc2 : decide ((n : Int) < (n : Int) + 1) = true := by simp; omega
  have hc1 : (n : Int) < (n : Int) + 1 := by omega
  have hb2 : (0 : Int) ≤ (i : Int) + 1 := by omega
  have hb3 : ((i : Int) + 1).toNat = i + 1 := by omega
  have hb6 : ¬ (n = i) := by omega
  have hb8 : IntKind.i64.wrap ((i : Int) + 1) = (i : Int) + 1 := IntWalk.i64_in _ (by omega)
  have hb9 : (i : Int) ≤ (n : Int) := by omega
  have hkz : IntKind.i64.wrap ((n : Int) + 1 - (i : Int)) = ((n + 1 - i : Nat) : Int) := by rw [IntWalk.i64_in _ (by omega)]; omega
  have hkz2 : (n : Int) + 1 - (i : Int) = ((n + 1 - i : Nat) : Int) := by omega
  obtain ⟨cap, W0, hrun, hO0, hB0, hcap⟩ := run_append_zeros_en (i := i) (k := n + 1 - i) (ty := 22) h hB hn (by omega) (by omega) hl
  have hcm : cap ≤ maxLen := by obtain ⟨_, _, _, _, hm, _⟩ := hO0; exact hm
  unfold maxLen at hcm
  have hTi : (l.take i).length = i := by rw [List.length_take]; omega
  have hdl : (l.drop i).length = n - i := by rw [List.length_drop]; omega
  have hgl : g < w.heap.size := h.lt
  have hxl : x < w.heap.size := (Array.getElem?_eq_some_iff.1 hx).1
  have hx0 : W0.heap[x]? = some (.cells #[.string p, .int .u32 u] 39 (0, 0)) := by rw [hB0.block x hxl]; exact hx
  have hO0g : OwnB W0 B g n l := h.below hB0
  obtain ⟨W1, hW1⟩ : ∃ W1, W0.setCells w.heap.size (i * 2) (enCells [(p, u)]) = W1 := ⟨_, rfl⟩
  have hcp1 : ∀ ty dc, (Builtin.copy_ #[22, 22] ty #[.slice (some ⟨w.heap.size, i * 2, none⟩) (n + 1 - i) dc, .slice (some ⟨x, 0, none⟩) 1 1]).run Try.prog W0 = .ok (goInt 1) W1 := fun ty dc => by
    rw [← hW1]
    exact run_copy_en (xs := [(p, u)]) (by show 1 = _; simp only [Nat.min_def]; split <;> omega) (pair_of_row hx0) (fun j hj => hO0.spot (by simp at hj; omega))
  have hlen0 : (l.take i ++ List.replicate (n + 1 - i) zE).length = n + 1 := by rw [List.length_append, hTi, List.length_replicate]; omega
  have hO1 : OwnB W1 B w.heap.size cap (l.take i ++ ((p, u) :: List.replicate (n - i) zE)) := by
    have := hO0.write (xs := [(p, u)]) (k := i) (by rw [hlen0]; show i + 1 ≤ _; omega)
    rw [hW1] at this
    have e1 : (l.take i ++ List.replicate (n + 1 - i) zE).take i = l.take i := by
      rw [List.take_append_of_le_length (by omega), List.take_take, Nat.min_self]
    have e2 : (l.take i ++ List.replicate (n + 1 - i) zE).drop (i + 1) = List.replicate (n - i) zE := by
      rw [List.drop_append, hTi, List.drop_eq_nil_of_le (by omega), List.nil_append, List.drop_replicate]
      congr 1
      omega
    rw [e1, show (i + [(p, u)].length) = i + 1 from rfl, e2] at this
    exact this
  have hG1 : W0.grownBy W1 (some w.heap.size) := by rw [← hW1]; exact setCells_grown _ _ _ _
  have hO1g : OwnB W1 B g n l := hO0g.keep (hG1.block g hO0g.lt (fun e => by have := Option.some.inj e; omega))
  have hO1d : OwnB W1.drew B w.heap.size cap (l.take i ++ ((p, u) :: List.replicate (n - i) zE)) := hO1.below (bl_drew (Below.refl _ W1))
  have hO1gd : OwnB W1.drew B g n l := hO1g.below (bl_drew (Below.refl _ W1))
  obtain ⟨W2, hW2⟩ : ∃ W2, W1.drew.setCells w.heap.size ((i + 1) * 2) (enCells (l.drop i)) = W2 := ⟨_, rfl⟩
  have hcp2 : ∀ ty dc sc, (Builtin.copy_ #[22, 22] ty #[.slice (some ⟨w.heap.size, (i + 1) * 2, none⟩) (n - i) dc, .slice (some ⟨g, i * 2, none⟩) (n - i) sc]).run Try.prog W1.drew = .ok (goInt (l.drop i).length) W2 := fun ty dc sc => by
    rw [← hW2]
    refine run_copy_en (by rw [hdl]; simp only [Nat.min_def]; split <;> omega) ?_ (fun j hj => hO1d.spot (by rw [hdl] at hj; omega))
    have := en_src (hO1gd.at.drop i)
    rw [Nat.zero_add] at this
    exact this
  have hO2 : OwnB W2 B w.heap.size cap (l.take i ++ (p, u) :: l.drop i) := by
    have e1 : (l.take i ++ ((p, u) :: List.replicate (n - i) zE)).take (i + 1) = l.take i ++ [(p, u)] := by
      rw [List.take_append, hTi, List.take_of_length_le (by omega), show i + 1 - i = 1 from by omega]; rfl
    have ht := hO1d.take (i + 1)
    rw [e1] at ht
    have hl1 : (l.take i ++ [(p, u)]).length = i + 1 := by rw [List.length_append, hTi]; rfl
    have := ht.push (xs := l.drop i) (by rw [hl1, hdl]; omega)
    rw [hl1, hW2] at this
    simpa using this
  have hG2 : W1.drew.grownBy W2 (some w.heap.size) := by rw [← hW2]; exact setCells_grown _ _ _ _
  have HB2 := Lib.hid (show Below B w W2 from by
    have b0 : Below B w W0 := hB0.mono hB
    have b1 := gb_to_below b0 hG1 (Nat.le_trans hB b0.size) (fun k hk => by cases hk; exact hB)
    exact gb_to_below (bl_drew' b1) hG2 (Nat.le_trans hB b1.size) (fun k hk => by cases hk; exact hB))
  have HO2 := Lib.hid hO2
  have HLN := Lib.hid (show (l.take i ++ (p, u) :: l.drop i).length = n + 1 by rw [List.length_append, List.length_cons, hdl, hTi]; omega)
  have HR := Lib.hid hrun
  have hca : ¬ (cap = i) := by omega
  have hcb : ¬ (cap = i + 1) := by omega
  have hcz : (n : Int) + 1 ≤ (cap : Int) := by omega
  have hb1 : (i : Int) + 1 ≤ (n : Int) + 1 := by omega
  have hb10 : (i : Int) ≤ (n : Int) + 1 := by omega
  clear h hx hn hTi hdl hgl hxl hx0 hO0 hB0 hO0g hO1 hG1 hO1g hO1d hO1gd hO2 hG2 hW1 hW2 hlen0 hrun
  go_enter Try.func53, Try.ntmps53
  go_upto_region 9 with (fail)
  go_wp2_with (at_builtin; first
    | (refine Lib.wpList_append_run _ rfl (.tmp 34) (.tmp 39) 22 3 rfl _ _ rfl rfl _ _ HR.out ?_)
    | (refine Go.Proofs.wpList_copy_runI _ rfl (.tmp 43) (.tmp 44) 22 22 rfl _ _ rfl rfl (hcp1 _ _) ?_))
  go_region_law (refine Go.Proofs.step_copy_runI rfl _ _ 22 22 rfl _ _ (by simp [Act.eval, Act.put]; try rfl) (by simp [Act.eval, Act.put]; try rfl) (hcp2 _ _ _) ?_)
  all_goals
    go_wp2
    go_ret
    exact ⟨_, rfl, own_fin HO2.out rfl HLN.out, HB2.out⟩
end Go.Proofs.Ytdjpmgkcgpkkmaa
