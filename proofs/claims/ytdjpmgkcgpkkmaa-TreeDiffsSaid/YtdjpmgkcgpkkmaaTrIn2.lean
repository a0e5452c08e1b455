/- Walks of layer 8: slices.Insert of one entry. -/
import Derived.Test.YtdjpmgkcgpkkmaaTrIns
set_option linter.unusedVariables false
set_option linter.unusedSimpArgs false
namespace Go.Proofs.Ytdjpmgkcgpkkmaa
open Go.RowKit TrMath

theorem pair_of_row {w : World} {x : Nat} {u v : Value} {t : TypeId} (h : w.heap[x]? = some (.cells #[u, v] t (0, 0))) : ∀ (j : Nat) y, [u, v][j]? = some y → w.cell? ((⟨x, 0, none⟩ : Addr).add j) = some y := by
  intro j y hj
  match j, hj with
  | 0, hj => simp at hj; subst hj; show w.cell? ⟨x, 0, none⟩ = _; rw [cell_of_row _ _ _ _ _ _ h]; rfl
  | 1, hj => simp at hj; subst hj; show w.cell? ⟨x, 1, none⟩ = _; rw [cell_of_row _ _ _ _ _ _ h]; rfl
def InsSaid (B : Nat) (l : Ents) (i : Nat) (p : ByteArray) (u : Int) (w : World) (r : Ending) (w' : World) : Prop :=
  ∃ v, r = .returned v ∧ Own w' B v (l.take i ++ (p, u) :: l.drop i) ∧ Below B w w'

set_option maxHeartbeats 2000000 in
set_option maxRecDepth 100000 in
theorem tInsertEnd (l : Ents) (B : Nat) (v : Value) (p : ByteArray) (u : Int) (x : Nat) (hl : l.length ≤ 1099511627776) (w : World) (h : Own w B v l) (hB : B ≤ w.heap.size) (hx : w.heap[x]? = some (.cells #[.string p, .int .u32 u] 39 (0, 0))) :
    Calls Try.prog 53 #[v, .int .i64 l.length, .slice (some ⟨x, 0, none⟩) 1 1] w (InsSaid B l l.length p u w) := by
  obtain ⟨i0, hi, hz0, hz1, hz2⟩ := info_parts infoEntry
  obtain ⟨a, c, rfl, he, hs⟩ := Own.sl h
  have HO := Lib.hid h
  have HP := Lib.hid (pair_of_row hx)
  have hcl := hs.le
  have hcm := hs.cm
  unfold maxLen at hcm
  have HFin := Lib.hid (show l.take l.length ++ (p, u) :: l.drop l.length = l ++ [(p, u)] by simp)
  have hpl := hs.pl
  have hw0 := fun k hk => (h.lt k hk).1
  have HLT := Lib.hid hw0
  clear h he hs hx hw0
  rcases hpl with ⟨rfl, rfl⟩ | ⟨b, off, rfl⟩
  · have hl0 : l = [] := List.eq_nil_of_length_eq_zero (by omega)
    subst hl0
    go_enter Try.func53, Try.ntmps53
    go_wp2_with (refine wpList_append_lies _ rfl (.tmp 23) (.tmp 24) 22 rfl B 39 i0 (.agg #[.string ⟨#[]⟩, .int .u32 0]) 2 24 Try.underlying22 hi hz0 hz1 hz2 rfl (by decide) _ 0 [] rfl HO.out ⟨x, 0, none⟩ 1 1 [.string p, .int .u32 u] rfl rfl HP.out (one_pair _ _) (by decide) (by unfold maxLen; omega) (by omega) hB _ rfl ?_; intro gg cp w5 hown hg hat hlt5; have HO5 := Lib.hid hown; have HG5 := Lib.hid hg; clear hown hg hat hlt5)
    go_ret
    exact ⟨_, rfl, Own.push (l := []) HO5.out, gb_to_below (Below.refl _ _) HG5.out hB (fun k hk => HLT.out k hk)⟩
  · by_cases hce : c = l.length
    all_goals
      go_enter Try.func53, Try.ntmps53
      go_wp2_with (refine wpList_append_lies _ rfl (.tmp 23) (.tmp 24) 22 rfl B 39 i0 (.agg #[.string ⟨#[]⟩, .int .u32 0]) 2 24 Try.underlying22 hi hz0 hz1 hz2 rfl (by decide) (.slice (some ⟨b, off, none⟩) l.length c) l.length (enCells l) (by first | rfl | simp [hce]) HO.out ⟨x, 0, none⟩ 1 1 [.string p, .int .u32 u] rfl rfl HP.out (one_pair _ _) (by decide) (by unfold maxLen; omega) (by omega) hB _ rfl ?_; intro gg cp w5 hown hg hat hlt5; have HO5 := Lib.hid hown; have HG5 := Lib.hid hg; clear hown hg hat hlt5)
      go_ret
      exact ⟨_, rfl, by rw [HFin.out]; exact Own.push HO5.out, gb_to_below (Below.refl _ _) HG5.out hB (fun k hk => HLT.out k hk)⟩

set_option maxHeartbeats 4000000 in
set_option maxRecDepth 100000 in
theorem tInsertRoom (l : Ents) (i : Nat) (hil : i < l.length) (B g c : Nat) (p : ByteArray) (u : Int) (x : Nat) (hl : l.length ≤ 1099511627776) (hroom : l.length + 1 ≤ c) (w : World) (h : OwnB w B g c l) (hB : B ≤ w.heap.size) (hx : w.heap[x]? = some (.cells #[.string p, .int .u32 u] 39 (0, 0))) (hxg : x ≠ g) :
    Calls Try.prog 53 #[.slice (some ⟨g, 0, none⟩) l.length c, .int .i64 i, .slice (some ⟨x, 0, none⟩) 1 1] w (InsSaid B l i p u w) := by
  have hcm : c ≤ maxLen := by obtain ⟨_, _, _, _, hm, _⟩ := h; exact hm
  have hgB : B ≤ g := by obtain ⟨_, hm, _⟩ := h; exact hm
  unfold maxLen at hcm
  have hov : ∀ lb cb, (callFunc 67 #[.slice (some ⟨x, 0, none⟩) 1 1, .slice (some ⟨g, (i + 1) * 2, none⟩) lb cb]).run Try.prog w = .ok (.value (.bool false)) w := fun lb cb => by
    have hsx : w.shape? x = some (39, 2) := by unfold World.shape?; rw [hx]; rfl
    obtain ⟨cur, _, hh, _, _, hs, _⟩ := h
    have hsg : w.shape? g = some (39, cur.size) := by unfold World.shape?; rw [hh]
    have hfx : ∀ o, w.frozen? ⟨x, o, none⟩ = false := fun o => by simp [World.frozen?, hx]
    rw [run_callFunc_extern Try.func67 (by kernel_rfl) (by kernel_rfl) (by kernel_rfl) (e := Extern.SlicesOverlaps.overlaps #[22, 22] #[4]) (by kernel_rfl),
      Lib.run_overlaps_apart w 22 4 39 Try.underlying22 2 (fun _ => by kernel_rfl) ⟨x, 0, none⟩ ⟨g, (i + 1) * 2, none⟩ 1 1 lb cb hxg 39 39 2 cur.size hsx hsg (by rw [hs]; omega) (hfx 0) (hfx 2)]
    rfl
  obtain ⟨n, hn⟩ : ∃ n, l.length = n := ⟨_, rfl⟩
  have HN := Lib.hid hn
  have HO := Lib.hid h
  have HX := Lib.hid hx
  rw [hn] at hil hl hroom
  rw [hn]
  have hn1 : ¬ ((i : Int) = (n : Int)) := by omega
  have hn2 : ((i : Int) == (n : Int)) = false := by rw [beq_eq_false_iff_ne]; omega
  have hc1 : ¬ ((c : Int) < (n : Int) + 1) := by omega
  have hc2 : decide ((c : Int) < (n : Int) + 1) = false := by simp; omega
  have hb1 : (i : Int) + 1 ≤ (n : Int) + 1 := by omega
  have hb2 : (0 : Int) ≤ (i : Int) + 1 := by omega
  have hb3 : ((i : Int) + 1).toNat = i + 1 := by omega
  have hb4 : (n : Int) + 1 ≤ (c : Int) := by omega
  have hb5 : ((n : Int) + 1).toNat = n + 1 := by omega
  have hb6 : ¬ (c = i + 1) := by omega
  have hb7 : ¬ (c = i) := by omega
  have hb9 : (i : Int) ≤ (n : Int) + 1 := by omega
  have hb8 : IntKind.i64.wrap ((i : Int) + 1) = (i : Int) + 1 := IntWalk.i64_in _ (by omega)
  have htl : (l.take (i + 1)).length = i + 1 := by rw [List.length_take]; omega
  have hdl : (l.drop i).length = n - i := by rw [List.length_drop]; omega
  have hOd : OwnB w.drew B g c l := h.below (bl_drew (Below.refl _ w))
  obtain ⟨W1, hW1⟩ : ∃ W1, w.drew.setCells g ((i + 1) * 2) (enCells (l.drop i)) = W1 := ⟨_, rfl⟩
  have hcp1 : ∀ ty dc sc, (Builtin.copy_ #[22, 22] ty #[.slice (some ⟨g, (i + 1) * 2, none⟩) (n - i) dc, .slice (some ⟨g, i * 2, none⟩) (n + 1 - i) sc]).run Try.prog w.drew = .ok (goInt (l.drop i).length) W1 := fun ty dc sc => by
    rw [← hW1]
    refine run_copy_en (by rw [hdl]; simp only [Nat.min_def]; split <;> omega) ?_ (fun j hj => hOd.spot (by rw [hdl] at hj; omega))
    have := en_src (hOd.at.drop i)
    rw [Nat.zero_add] at this
    exact this
  have hO1 : OwnB W1 B g c (l.take (i + 1) ++ l.drop i) := by
    have := (hOd.take (i + 1)).push (xs := l.drop i) (by rw [htl, hdl]; omega)
    rw [htl, hW1] at this
    exact this
  have hG1 : w.grownBy W1 (some g) := by
    have := setCells_grown g ((i + 1) * 2) (enCells (l.drop i)) w.drew
    rw [hW1] at this
    exact ⟨this.os, this.tape, this.output, this.size, this.block⟩
  have hx1 : W1.heap[x]? = some (.cells #[.string p, .int .u32 u] 39 (0, 0)) := by
    rw [hG1.block x (Array.getElem?_eq_some_iff.1 hx).1 (fun e => hxg (Option.some.inj e))]; exact hx
  obtain ⟨W2, hW2⟩ : ∃ W2, W1.setCells g (i * 2) (enCells [(p, u)]) = W2 := ⟨_, rfl⟩
  have hcp2 : ∀ ty dc, (Builtin.copy_ #[22, 22] ty #[.slice (some ⟨g, i * 2, none⟩) (n + 1 - i) dc, .slice (some ⟨x, 0, none⟩) 1 1]).run Try.prog W1 = .ok (goInt 1) W2 := fun ty dc => by
    rw [← hW2]
    exact run_copy_en (xs := [(p, u)]) (by show 1 = _; simp only [Nat.min_def]; split <;> omega) (pair_of_row hx1) (fun j hj => hO1.spot (by simp at hj; omega))
  have hO2 : OwnB W2 B g c (l.take i ++ (p, u) :: l.drop i) := by
    have := hO1.write (xs := [(p, u)]) (k := i) (by rw [List.length_append, htl, hdl]; show i + 1 ≤ _; omega)
    rw [hW2] at this
    have e1 : (l.take (i + 1) ++ l.drop i).take i = l.take i := by
      rw [List.take_append_of_le_length (by omega), List.take_take, Nat.min_eq_left (by omega)]
    have e2 : (l.take (i + 1) ++ l.drop i).drop (i + 1) = l.drop i := List.drop_left' htl
    rw [e1] at this
    show OwnB W2 B g c (l.take i ++ ([(p, u)] ++ l.drop i))
    rw [show (i + [(p, u)].length) = i + 1 from rfl, e2] at this
    exact this
  have HO2 := Lib.hid hO2
  have hG2 : W1.grownBy W2 (some g) := by rw [← hW2]; exact setCells_grown _ _ _ _
  have HB2 := Lib.hid (gb_to_below (Below.refl B w) (gb_trans hG1 hG2 (fun k hk => .inl hk)) hB (fun k hk => by cases hk; exact hgB))
  have HLN := Lib.hid (show (l.take i ++ (p, u) :: l.drop i).length = n + 1 by rw [List.length_append, List.length_cons, hdl, List.length_take]; omega)
  clear h hx hn htl hdl hOd hO1 hG1 hG2 hx1 hO2 hW1 hW2
  go_enter Try.func53, Try.ntmps53
  go_wp2_with (simp only [hov])
  go_region_law (refine Go.Proofs.step_copy_runI rfl _ _ 22 22 rfl _ _ (by simp [Act.eval, Act.put]; try rfl) (by simp [Act.eval, Act.put]; try rfl) (hcp1 _ _ _) ?_)
  all_goals
    go_wp2_with (at_builtin; refine Go.Proofs.wpList_copy_runI _ rfl _ _ 22 22 rfl _ _ rfl rfl (hcp2 _ _) ?_)
    go_ret
    exact ⟨_, rfl, own_fin HO2.out rfl HLN.out, HB2.out⟩
end Go.Proofs.Ytdjpmgkcgpkkmaa
