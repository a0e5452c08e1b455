/- Layer 3 (queue) at walk's commits, walked: Push; Layer 3 (queue) at walk's commits, walked: the first one sinks; Layer 3 (queue) at walk's commits, walked: Pop; New; Layer 3 (queue) at bases's commits, walked: Push; Layer 3 (queue) at bases's commits, walked: the first one sinks; Layer 3 (queue) at bases's commits, walked: Pop; New. -/
import Derived.Test.YtbhfbdcmamodcaaGreatDoorL05
import Derived.Test.YtbhfbdcmamodcaaGreatDoorL37
import Derived.Deep.RegionLaw
import Derived.Deep.Cut
set_option linter.unusedVariables false
set_option linter.unusedSimpArgs false
namespace Go.Proofs.YtbhfbdcmamodcaaGreatDoor
open Go.RowKit LgMath
section
variable {w w' : World} {q g c : Nat} {l : List (Nat × Nat)}
theorem qwRow.at1 (h : qwRow w q g c l) : ∃ k : Nat, k < 18446744073709551616 ∧ w.cell? ⟨q, 1, none⟩ = some (.int .u64 (k : Nat)) ∧ w.frozen? ⟨q, 1, none⟩ = false := by
  obtain ⟨⟨k, hk, a⟩, _⟩ := h
  exact ⟨k, hk, by rw [cell_of_row _ _ _ _ _ _ a]; rfl, frozen_of_row _ _ _ _ _ a⟩
theorem qwRow.next (h : qwRow w q g c l) {k : Nat} (hk : k < 18446744073709551616) : qwRow (w.setCell ⟨q, 1, none⟩ (.int .u64 (k : Nat))) q g c l := by
  obtain ⟨⟨k0, hk0, a⟩, b, d⟩ := h
  exact ⟨⟨k, hk, heap_setCell_same w q 1 _ _ _ a⟩, b.stays (fun j e => by simp [Value.ownBlock] at e; subst e; exact heap_setCell_other _ _ _ _ d), d⟩
theorem qwPushed {w W w5 : World} {q gg cap n : Nat} {v : Value} {l : List (Nat × Nat)} {x : Nat × Nat} (h : qwAt w q v l) (hn : l.length = n) (hg : W.grownBy w5 v.ownBlock) (hown : w5.ownsRow 0 201 2 (.slice (some ⟨gg, 0, none⟩) (n + 1) cap) (n + 1) (l.flatMap entV ++ entV x)) (hat : v.ownBlock = some gg ∨ gg = W.heap.size) (hb : Below w.heap.size w W) :
    qwRow (w5.setCell ⟨q, 0, none⟩ (.slice (some ⟨gg, 0, none⟩) (n + 1) cap)) q gg cap (l ++ [x]) ∧ Upd (fun j => j = q ∨ v.ownBlock = some j) w (w5.setCell ⟨q, 0, none⟩ (.slice (some ⟨gg, 0, none⟩) (n + 1) cap)) ∧ (v.ownBlock = some gg ∨ w.heap.size ≤ gg) := by
  subst hn
  have hql := h.lt.1
  have hbz := hb.size
  have hne : gg ≠ q := by
    rcases hat with e | e
    · intro e2; exact h.ne (by rw [e, e2])
    · omega
  have ho : OwnX 201 2 entV w5 0 (.slice (some ⟨gg, 0, none⟩) (l.length + 1) cap) (l ++ [x]) := OwnX.push (enc := entV) (m := [x]) hown (by simp) (by simp)
  obtain ⟨⟨k, hk, a⟩, b, c, d⟩ := h
  have a5 := (hg.block q (by omega) (fun e => c e.symm)).trans ((hb.block q hql).trans a)
  have hl : (l ++ [x]).length = l.length + 1 := by simp
  refine ⟨⟨⟨k, hk, ?_⟩, ?_, hne⟩, ?_, ?_⟩
  · rw [hl]; exact heap_setCell_same w5 q 0 _ _ _ a5
  · rw [hl]; exact ho.stays fun j e => by simp [Value.ownBlock] at e; subst e; exact heap_setCell_other _ _ _ _ hne
  · exact (((Upd.of hb).grown hg fun j e => .inl (.inr e))).set _ _ _ (.inl (.inl rfl))
  · rcases hat with e | e
    · exact .inl e
    · exact .inr (by omega)
end
theorem qwRow.at_ {w : World} {q g c : Nat} {l : List (Nat × Nat)} (h : qwRow w q g c l) (hh : HeapF l.length (keyL l)) : qwAt w q (.slice (some ⟨g, 0, none⟩) l.length c) l := by
  obtain ⟨a, b, d⟩ := h
  exact ⟨a, b, fun e => by simp [Value.ownBlock] at e; exact d e, hh⟩
theorem qwKeyPush (l : List (Nat × Nat)) (x : Nat × Nat) : ∀ j, j < l.length → keyL (l ++ [x]) j = keyL l j := fun j hj => by
  unfold keyL
  rw [List.getD_eq_getElem?_getD, List.getElem?_append_left hj, List.getD_eq_getElem?_getD]
def qwPut (w : World) (q : Nat) (v : Value) (l : List (Nat × Nat)) (x : Nat) (w' : World) : Prop :=
  ∃ v' l', qwAt w' q v' l' ∧ (l'.map Prod.fst).Perm (x :: l.map Prod.fst) ∧ Upd (fun j => j = q ∨ v.ownBlock = some j) w w' ∧ (∀ j, v'.ownBlock = some j → v.ownBlock = some j ∨ w.heap.size ≤ j)
set_option maxHeartbeats 4000000 in
set_option maxRecDepth 100000 in
theorem qwPush {w : World} {q : Nat} {v : Value} {l : List (Nat × Nat)} (h : qwAt w q v l) (x : Nat) (hl : l.length ≤ 100000) :
    Calls Tryz.prog 111 #[.pointer (some ⟨q, 0, none⟩), .int .i64 (x : Nat)] w fun e w' => e = .returned (.tuple #[]) ∧ qwPut w q v l x w' := by
  obtain ⟨i0, hi, hz0, hz1, hz2⟩ := info_parts qwInfo
  have H0 := Lib.hid h
  obtain ⟨⟨k, hk, a⟩, hown, hne, hheap⟩ := h
  obtain ⟨sa, sc, rfl, _, hsc, hscm, _, _⟩ := hown.sl
  obtain ⟨n, hn⟩ : ∃ n, l.length = n := ⟨_, rfl⟩
  rw [hn] at hown hne a H0 hl hsc hheap ⊢
  have c0 : w.cell? ⟨q, 0, none⟩ = some (.slice sa n sc) := by rw [cell_of_row _ _ _ _ _ _ a]; rfl
  have c1 : w.cell? ⟨q, 1, none⟩ = some (.int .u64 (k : Nat)) := by rw [cell_of_row _ _ _ _ _ _ a]; rfl
  have c0' : ∀ o, (w.alloc o).cell? ⟨q, 0, none⟩ = some (.slice sa n sc) := fun o => cell_al c0 o
  have c1' : ∀ o, (w.alloc o).cell? ⟨q, 1, none⟩ = some (.int .u64 (k : Nat)) := fun o => cell_al c1 o
  have HO := Lib.hid hown
  have HAF := Lib.hid (show ∀ W y, Below w.heap.size w W → W.grownBy y (Value.slice sa n sc).ownBlock → y.cell? ⟨q, 0, none⟩ = some (.slice sa n sc) ∧ y.frozen? ⟨q, 0, none⟩ = false from fun W y hx hy => by
    have hql := (Array.getElem?_eq_some_iff.1 a).1
    have := (hy.block q (Nat.lt_of_lt_of_le hql hx.size) (fun e => hne e.symm)).trans ((hx.block q hql).trans a)
    exact ⟨by rw [cell_of_row _ _ _ _ _ _ this]; rfl, frozen_of_row _ _ _ _ _ this⟩)
  have HHP := Lib.hid hheap; have HNN := Lib.hid hn; have HK := Lib.hid hk
  have HOB := Lib.hid (show ∀ W, Below w.heap.size w W → W.ownsRow 0 201 2 (.slice sa n sc) n (l.flatMap entV) from fun W hb => by
    have := OwnX.below hown hb
    unfold OwnX at this
    rwa [hn] at this)
  clear a hown hne hheap hn hsc hscm
  go_enter Tryz.func111, Tryz.ntmps111
  go_upto_region 1 with (fail)
  go_cut [] from 8 (fun wr => ∃ gg cp, qwRow wr q gg cp (l ++ [(x, k)]) ∧ Upd (fun j => j = q ∨ (Value.slice sa n sc).ownBlock = some j) w wr ∧ ((Value.slice sa n sc).ownBlock = some gg ∨ w.heap.size ≤ gg))
  case first =>
    go_wp2_with fail
    go_region_law (refine step_append_lies _ rfl (.tmp 12) (.tmp 19) 196 rfl 0 201 i0 (.agg #[.int .i64 0, .int .u64 0]) 2 16 Tryz.underlying196 hi hz0 hz1 hz2 rfl (by decide) (.slice sa n sc) n (l.flatMap entV) rfl (HOB.out _ (by repeat (first | exact Below.refl _ w | refine bl_alloc ?_ _ | refine bl_drew ?_ | refine bl_drewN ?_ _))) _ 1 1 (entV (x, k)) rfl rfl (cells_new _ (entV (x, k)) _ (by simp)) (by intro u hu; simp [entV] at hu; rcases hu with rfl | rfl <;> rfl) (by decide) (by unfold maxLen; omega) (by omega) (Nat.zero_le _) _ rfl ?_; intro gg cp w5 hown hg hat hlt5; obtain ⟨hs5, hz5⟩ := HAF.out _ w5 (by repeat (first | exact Below.refl _ w | refine bl_alloc ?_ _ | refine bl_drew ?_ | refine bl_drewN ?_ _)) hg)
    all_goals
      obtain ⟨hR1, hU1, hG1⟩ := qwPushed (x := (x, k)) (l := l) H0.out HNN.out hg hown hat (by repeat (first | exact Below.refl _ w | refine bl_alloc ?_ _ | refine bl_drew ?_ | refine bl_drewN ?_ _))
      go_wp2
      go_meet
      case rel => exact ⟨gg, cp, hR1, hU1, hG1⟩
  case rest =>
    obtain ⟨gg, cp, hR1, hU1, hG1⟩ := hcut
    clear c0 c1 c0' c1'
    obtain ⟨X1, hX1⟩ : ∃ X1 : World, X1 = wc := ⟨_, rfl⟩
    subst hX1
    obtain ⟨k1, hk1, e1, f1⟩ := hR1.at1
    have hwr : IntKind.u64.wrap ((k1 : Int) + 1) = (((k1 + 1) % 18446744073709551616 : Nat) : Int) := by rw [IntKind.wrap_u64]; omega
    have hR2 := hR1.next (k := (k1 + 1) % 18446744073709551616) (Nat.mod_lt _ (by decide))
    have hU2 := hU1.set q 1 (.int .u64 (((k1 + 1) % 18446744073709551616 : Nat) : Int)) (.inl (.inl rfl))
    clear hR1 hU1
    generalize (k1 + 1) % 18446744073709551616 = k2 at *
    obtain ⟨X2, hX2⟩ : ∃ X2, X1.setCell ⟨q, 1, none⟩ (.int .u64 (k2 : Int)) = X2 := ⟨_, rfl⟩
    rw [hX2] at hR2 hU2
    have e2 := hR2.at0
    have hl1 : (l ++ [(x, k)]).length = n + 1 := by rw [List.length_append, HNN.out]; rfl
    rw [hl1] at e2
    have HG2 := Lib.hid (show (gg = q ∨ (Value.slice sa n sc).ownBlock = some gg) ∨ w.heap.size ≤ gg from hG1.imp .inr id)
    have HSUB := Lib.hid (show ∀ (m c : Nat) j, (Value.slice (some ⟨gg, 0, none⟩) m c).ownBlock = some j → (Value.slice sa n sc).ownBlock = some j ∨ w.heap.size ≤ j from fun m c j e => by simp [Value.ownBlock] at e; subst e; exact hG1)
    have HR2 := Lib.hid hR2; have HU2 := Lib.hid hU2; have HG := Lib.hid hG1; have HL1 := Lib.hid hl1; have HX2 := Lib.hid hX2
    clear hR2 hU2 hG1 hl1 hX2
    have hw1 : IntKind.i64.wrap (((n + 1 : Nat) : Int) - 1) = (n : Int) := by rw [IntWalk.i64_in _ (by omega)]; omega
    go_upto_region 3 with (fail)
    rw [HX2.out]
    go_wp2_with fail
    go_loopw [4] (fun iv wr => ∃ (i : Nat) (l2 : List (Nat × Nat)), iv = .int .i64 i ∧ i < n + 1 ∧ l2.length = n + 1 ∧ qwRow wr q gg cp l2 ∧ UpF (n + 1) (keyL l2) i ∧ (l2.map Prod.fst).Perm (x :: l.map Prod.fst) ∧ Upd (fun j => j = q ∨ (Value.slice sa n sc).ownBlock = some j) w wr) (fun iv _ => (intOf iv).toNat)
    case atStart =>
      refine ⟨n, l ++ [(x, k)], rfl, Nat.lt_succ_self n, HL1.out, HR2.out, ?_, ?_, HU2.out⟩
      · exact up_push HHP.out fun j hj => qwKeyPush l _ j (by rw [HNN.out]; exact hj)
      · rw [List.map_append]; exact List.perm_append_singleton _ _
    case round =>
      obtain ⟨i, l2, rfl, hin, hl2, hrow, hup, hpm, hupd⟩ := hrel
      obtain ⟨wq, hwq⟩ : ∃ wq : World, wq = wr := ⟨_, rfl⟩
      subst hwq
      have HR := Lib.hid hrow; have HUP := Lib.hid hup; have HPM := Lib.hid hpm; have HUD := Lib.hid hupd; have HL2 := Lib.hid hl2
      clear HR2 HU2 HX2 e1 e2 f1 HOB HAF HO H0
      by_cases h0 : 0 < i
      · obtain ⟨u, hu⟩ : ∃ u, (i - 1) / 2 = u := ⟨_, rfl⟩
        have hui : u < i := by omega
        have huz : ((i : Int) - 1) / 2 = (u : Int) := by omega
        have huz2 : Int.tdiv ((i : Int) - 1) 2 = (u : Int) := by rw [Int.tdiv_eq_ediv_of_nonneg (by omega)]; exact huz
        have hw3 : IntKind.i64.wrap ((i : Int) - 1) = (i : Int) - 1 := IntWalk.i64_in _ (by omega)
        obtain ⟨a0, a1⟩ := hrow.cells (i := i) (by omega)
        obtain ⟨b0, b1⟩ := hrow.cells (i := u) (by omega)
        have s0 := hrow.at0
        rw [hl2] at s0
        have HKI := Lib.hid (show keyL l2 i = (l2.getD i (0, 0)).1 from rfl)
        have HKU := Lib.hid (show keyL l2 u = (l2.getD u (0, 0)).1 from rfl)
        have HSW := Lib.hid (fun W (hb : Below wq.heap.size wq W) => (hrow.below hb).swap (i := i) (j := u) (by omega) (by omega))
        have HHU := Lib.hid hu
        generalize l2.getD i (0, 0) = ei at *
        generalize l2.getD u (0, 0) = eu at *
        have C0 : ∀ z : Past wq, z.x.cell? ⟨q, 0, none⟩ = some (.slice (some ⟨gg, 0, none⟩) (n + 1) cp) := fun z => bl_cell z.b s0
        have C1 : ∀ z : Past wq, z.x.cell? ⟨gg, i * 2, none⟩ = some (.int .i64 (ei.1 : Nat)) := fun z => bl_cell z.b a0
        have C2 : ∀ z : Past wq, z.x.cell? ⟨gg, i * 2 + 1, none⟩ = some (.int .u64 (ei.2 : Nat)) := fun z => bl_cell z.b a1
        have C3 : ∀ z : Past wq, z.x.cell? ⟨gg, u * 2, none⟩ = some (.int .i64 (eu.1 : Nat)) := fun z => bl_cell z.b b0
        have C4 : ∀ z : Past wq, z.x.cell? ⟨gg, u * 2 + 1, none⟩ = some (.int .u64 (eu.2 : Nat)) := fun z => bl_cell z.b b1
        obtain ⟨t, ht⟩ : ∃ t, aheadB ei eu = t := ⟨_, rfl⟩
        have HC := Lib.hid (fun z : Past wq => Calls.past z.b (qwAhead ei eu z.x))
        rw [ht] at HC
        unfold entV at HC
        have HT := Lib.hid ht
        have hil : (i : Int) < ((n + 1 : Nat) : Int) := by omega
        have hul : (u : Int) < ((n + 1 : Nat) : Int) := by omega
        have hi0 : decide ((i : Int) > 0) = true := decide_eq_true (by omega)
        have hi00 : decide (0 < i) = true := decide_eq_true h0
        have HCEL := Lib.hid (fun W (hb : Below wq.heap.size wq W) => show W.cell? ⟨q, 0, none⟩ = some (.slice (some ⟨gg, 0, none⟩) (n + 1) cp) ∧ W.cell? ⟨gg, i * 2, none⟩ = some (.int .i64 (ei.1 : Nat)) ∧ W.cell? ⟨gg, i * 2 + 1, none⟩ = some (.int .u64 (ei.2 : Nat)) ∧ W.cell? ⟨gg, u * 2, none⟩ = some (.int .i64 (eu.1 : Nat)) ∧ W.cell? ⟨gg, u * 2 + 1, none⟩ = some (.int .u64 (eu.2 : Nat)) ∧ ∀ j, W.frozen? ⟨gg, j, none⟩ = false from ⟨bl_cell hb s0, bl_cell hb a0, bl_cell hb a1, bl_cell hb b0, bl_cell hb b1, fun j => (hrow.below hb).own.free j⟩)
        clear hrow hup hpm hupd hl2 hu ht a0 a1 b0 b1 s0
        cases t with
        | false =>
          go_upto_region 6 with (fail)
          refine wp_region_past (by kernel_rfl) (by kernel_rfl) ?_
          repeat (go_big_quiet_step ((go_at_call 175; (with_reducible exact HC.out _))))
          refine wpQuiet_nil ?_
          intro _ hw'
          obtain ⟨pq, hw''⟩ := hw'
          subst hw''
          have HBq := Lib.hid pq.b
          generalize pq.x = Wc at *
          have HEND := Lib.hid (show qwPut w q (.slice sa n sc) l x Wc from ⟨_, l2, (HR.out.below HBq.out).at_ (up_done (by rw [HL2.out]; exact HUP.out) (.inr (by rw [HHU.out, HKI.out, HKU.out]; exact ahead_no HT.out))), HPM.out, HUD.out.thenB HBq.out, HSUB.out _ _⟩)
          go_wp2
          first | (exact bodyPost_ret (v := .tuple #[]) (by simp [results, Tryz.results111, go_sem]) rfl ⟨rfl, HEND.out⟩) | (exact bodyPost_end (v := .tuple #[]) (by simp [results, Tryz.results111, go_sem]) rfl ⟨rfl, HEND.out⟩) | (trace_state; fail)
        | true =>
          go_upto_region 6 with (fail)
          refine wp_region_past (by kernel_rfl) (by kernel_rfl) ?_
          repeat (go_big_quiet_step ((go_at_call 175; (with_reducible exact HC.out _))))
          refine wpQuiet_nil ?_
          intro _ hw'
          obtain ⟨pq, hw''⟩ := hw'
          subst hw''
          have HBq := Lib.hid pq.b
          obtain ⟨s0, a0, a1, b0, b1, fz⟩ := HCEL.out _ pq.b
          have f0 := fz (i * 2); have f1 := fz (i * 2 + 1); have f2 := fz (u * 2); have f3 := fz (u * 2 + 1)
          clear fz C0 C1 C2 C3 C4
          generalize pq.x = Wc at *
          go_wp2_with fail
          go_region
          go_wp2
          go_roundw
          case rel =>
            refine ⟨u, swapL l2 i u, rfl, by omega, by rw [swapL_len]; exact HL2.out, (HSW.out Wc HBq.out).stays rfl rfl, ?_, ?_, ?_⟩
            · rw [key_swap (by rw [HL2.out]; exact hin) (by rw [HL2.out]; omega), ← HHU.out]
              refine up_step HUP.out h0 hin ?_
              rw [HHU.out, HKI.out, HKU.out]
              exact ahead_yes HT.out
            · exact ((swap_perm (by rw [HL2.out]; exact hin) (by rw [HL2.out]; omega)).map _).trans HPM.out
            · exact (((((HUD.out.thenB HBq.out).set _ _ _ HG2.out).set _ _ _ HG2.out).set _ _ _ HG2.out).set _ _ _ HG2.out).drew
          case measure => simp [intOf]; omega
      · obtain rfl : i = 0 := by omega
        have HEND := Lib.hid (show qwPut w q (.slice sa n sc) l x wq from ⟨_, l2, HR.out.at_ (up_done (by rw [HL2.out]; exact HUP.out) (.inl rfl)), HPM.out, HUD.out, HSUB.out _ _⟩)
        go_wp2
        first | (exact bodyPost_ret (v := .tuple #[]) (by simp [results, Tryz.results111, go_sem]) rfl ⟨rfl, HEND.out⟩) | (exact bodyPost_end (v := .tuple #[]) (by simp [results, Tryz.results111, go_sem]) rfl ⟨rfl, HEND.out⟩) | (trace_state; fail)
end Go.Proofs.YtbhfbdcmamodcaaGreatDoor
namespace Go.Proofs.YtbhfbdcmamodcaaGreatDoor
open Go.RowKit LgMath
structure qwBest (key : Nat → Nat) (n i k f : Nat) : Prop where
  lo : 2 * i + 1 ≤ k
  hi : k ≤ 2 * i + 3
  at_ : f = i ∨ (2 * i + 1 ≤ f ∧ f < k ∧ f < n)
  self : key i ≤ key f
  all : ∀ j, 2 * i + 1 ≤ j → j < k → j < n → key j ≤ key f
theorem qwBest.start (key : Nat → Nat) (n i : Nat) : qwBest key n i (2 * i + 1) i := ⟨by omega, by omega, .inl rfl, Nat.le_refl _, fun j h1 h2 => by omega⟩
theorem qwBest.take {key : Nat → Nat} {n i k f : Nat} (h : qwBest key n i k f) (hk : k ≤ 2 * i + 2) (hn : k < n) (hc : key f ≤ key k) : qwBest key n i (k + 1) k :=
  ⟨by have := h.lo; omega, by omega, .inr ⟨h.lo, by omega, hn⟩, Nat.le_trans h.self hc, fun j h1 h2 h3 => by
    by_cases e : j = k
    · rw [e]; exact Nat.le_refl _
    · exact Nat.le_trans (h.all j h1 (by omega) h3) hc⟩
theorem qwBest.keep {key : Nat → Nat} {n i k f : Nat} (h : qwBest key n i k f) (hk : k ≤ 2 * i + 2) (hc : key k ≤ key f) : qwBest key n i (k + 1) f :=
  ⟨by have := h.lo; omega, by omega, h.at_.imp id fun ⟨a, b, c⟩ => ⟨a, by omega, c⟩, h.self, fun j h1 h2 h3 => by
    by_cases e : j = k
    · rw [e]; exact hc
    · exact h.all j h1 (by omega) h3⟩
theorem qwBest.full {key : Nat → Nat} {n i k f : Nat} (h : qwBest key n i k f) (hk : ¬ (k ≤ 2 * i + 2 ∧ k < n)) : ∀ j, 0 < j → j < n → (j - 1) / 2 = i → key j ≤ key f := fun j h1 h2 h3 => by
  have := h.lo
  exact h.all j (by omega) (by omega) h2
set_option maxHeartbeats 4000000 in
set_option maxRecDepth 100000 in
theorem qwSink {w : World} {q g c : Nat} {l : List (Nat × Nat)} (h : qwRow w q g c l) (hd : DnF l.length (keyL l) 0) (hl : l.length ≤ 100000) :
    Calls Tryz.prog 108 #[.pointer (some ⟨q, 0, none⟩)] w fun e w' => e = .returned (.tuple #[]) ∧ ∃ l', qwRow w' q g c l' ∧ HeapF l'.length (keyL l') ∧ (l'.map Prod.fst).Perm (l.map Prod.fst) ∧ Upd (· = g) w w' := by
  obtain ⟨n, hn⟩ : ∃ n, l.length = n := ⟨_, rfl⟩
  rw [hn] at hd hl
  have H0 := Lib.hid h; have HD0 := Lib.hid hd; have HN := Lib.hid hn
  clear h hd hn
  go_enter Tryz.func108, Tryz.ntmps108
  go_wp2_with fail
  go_loopw [2] (fun iv wr => ∃ (i : Nat) (l2 : List (Nat × Nat)), iv = .int .i64 i ∧ i ≤ n ∧ (i = 0 ∨ i < n) ∧ l2.length = n ∧ qwRow wr q g c l2 ∧ DnF n (keyL l2) i ∧ (l2.map Prod.fst).Perm (l.map Prod.fst) ∧ Upd (· = g) w wr) (fun iv _ => n - (intOf iv).toNat)
  case atStart => exact ⟨0, l, rfl, Nat.zero_le _, .inl rfl, HN.out, H0.out, HD0.out, List.Perm.refl _, Upd.refl _ _⟩
  case round =>
    obtain ⟨i, l2, rfl, hin, hin2, hl2, hrow, hdn, hpm, hupd⟩ := hrel
    obtain ⟨wq, hwq⟩ : ∃ wq : World, wq = wr := ⟨_, rfl⟩
    subst hwq
    have HR := Lib.hid hrow; have HDN := Lib.hid hdn; have HPM := Lib.hid hpm; have HUD := Lib.hid hupd; have HL2 := Lib.hid hl2; have HI2 := Lib.hid hin2
    clear hrow hdn hpm hupd hl2 hin2 H0 HD0 HN
    go_wp2_with fail
    go_loopw [3, 4] (fun fv kv wr => ∃ (f k : Nat), fv = .int .i64 f ∧ kv = .int .i64 k ∧ qwBest (keyL l2) n i k f ∧ Below wq.heap.size wq wr) (fun _ kv _ => 2 * i + 3 - (intOf kv).toNat)
    case atStart => exact ⟨i, 2 * i + 1, rfl, by go_num, qwBest.start _ _ _, Below.refl _ _⟩
    case round =>
      obtain ⟨f, k, rfl, rfl, hbest, hbel⟩ := hrel
      obtain ⟨wy, hwy⟩ : ∃ wy : World, wy = wr := ⟨_, rfl⟩
      subst hwy
      have hk1 := hbest.lo
      have hk2 := hbest.hi
      have hfb : f ≤ 200003 := by rcases hbest.at_ with e | e <;> omega
      have HBS := Lib.hid hbest; have HBL := Lib.hid hbel
      have hrow := HR.out.below hbel
      have s0 := hrow.at0
      rw [HL2.out] at s0
      by_cases hg : k ≤ 2 * i + 2 ∧ k < n
      · have hfn : f < n := by
          have := HI2.out
          rcases hbest.at_ with e | e
          · omega
          · exact e.2.2
        obtain ⟨a0, a1⟩ := hrow.cells (i := k) (by have := HL2.out; omega)
        obtain ⟨b0, b1⟩ := hrow.cells (i := f) (by have := HL2.out; omega)
        have HKI := Lib.hid (show keyL l2 k = (l2.getD k (0, 0)).1 from rfl)
        have HKU := Lib.hid (show keyL l2 f = (l2.getD f (0, 0)).1 from rfl)
        generalize l2.getD k (0, 0) = ei at *
        generalize l2.getD f (0, 0) = eu at *
        have C0 : ∀ z : Past wy, z.x.cell? ⟨q, 0, none⟩ = some (.slice (some ⟨g, 0, none⟩) n c) := fun z => bl_cell z.b s0
        have C1 : ∀ z : Past wy, z.x.cell? ⟨g, k * 2, none⟩ = some (.int .i64 (ei.1 : Nat)) := fun z => bl_cell z.b a0
        have C2 : ∀ z : Past wy, z.x.cell? ⟨g, k * 2 + 1, none⟩ = some (.int .u64 (ei.2 : Nat)) := fun z => bl_cell z.b a1
        have C3 : ∀ z : Past wy, z.x.cell? ⟨g, f * 2, none⟩ = some (.int .i64 (eu.1 : Nat)) := fun z => bl_cell z.b b0
        have C4 : ∀ z : Past wy, z.x.cell? ⟨g, f * 2 + 1, none⟩ = some (.int .u64 (eu.2 : Nat)) := fun z => bl_cell z.b b1
        obtain ⟨t, ht⟩ : ∃ t, aheadB ei eu = t := ⟨_, rfl⟩
        have HC := Lib.hid (fun z : Past wy => Calls.past z.b (qwAhead ei eu z.x))
        rw [ht] at HC
        unfold entV at HC
        have HT := Lib.hid ht
        obtain ⟨g1, g2⟩ := hg
        have hkl : (k : Int) < (n : Int) := by omega
        have hfl : (f : Int) < (n : Int) := by omega
        have hq1 : decide ((k : Int) ≤ 2 * (i : Int) + 2) = true := decide_eq_true (by omega)
        have hq2 : decide ((k : Int) < (n : Int)) = true := decide_eq_true (by omega)
        have hq3 : decide (k < n) = true := decide_eq_true g2
        clear hbest hbel hrow a0 a1 b0 b1 ht
        cases t with
        | false =>
          have HBN := Lib.hid (HBS.out.keep g1 (by rw [HKI.out, HKU.out]; exact ahead_no HT.out))
          go_upto_region 5 with (fail)
          refine wp_region_past (by kernel_rfl) (by kernel_rfl) ?_
          repeat (go_big_quiet_step ((go_at_call 175; (with_reducible exact HC.out _))))
          refine wpQuiet_nil ?_
          intro _ hw'
          obtain ⟨pq, hw''⟩ := hw'
          subst hw''
          have HBq := Lib.hid (bl_trans HBL.out pq.b)
          clear C0 C1 C2 C3 C4 s0
          generalize pq.x = Wc at *
          go_wp2
          go_roundw
          case rel => exact ⟨f, k + 1, rfl, by go_num, HBN.out, HBq.out⟩
          case measure => simp [intOf]; omega
        | true =>
          have HBN := Lib.hid (HBS.out.take g1 g2 (by rw [HKI.out, HKU.out]; exact ahead_yes HT.out))
          go_upto_region 5 with (fail)
          refine wp_region_past (by kernel_rfl) (by kernel_rfl) ?_
          repeat (go_big_quiet_step ((go_at_call 175; (with_reducible exact HC.out _))))
          refine wpQuiet_nil ?_
          intro _ hw'
          obtain ⟨pq, hw''⟩ := hw'
          subst hw''
          have HBq := Lib.hid (bl_trans HBL.out pq.b)
          clear C0 C1 C2 C3 C4 s0
          generalize pq.x = Wc at *
          go_wp2
          go_roundw
          case rel => exact ⟨k, k + 1, rfl, by go_num, HBN.out, HBq.out⟩
          case measure => simp [intOf]; omega
      · have HFU := Lib.hid (hbest.full hg)
        have HAT := Lib.hid hbest.at_
        have HSE := Lib.hid hbest.self
        have HROW := Lib.hid hrow
        have HUP := Lib.hid (HUD.out.thenB HBL.out)
        clear hbest hrow
        obtain ⟨b, hb⟩ : ∃ b, decide (k ≤ 2 * i + 2) = b := ⟨_, rfl⟩
        have hq1 : decide ((k : Int) ≤ 2 * (i : Int) + 2) = b := by rw [← hb]; congr 1; apply propext; omega
        have hq2 : b = true → decide ((k : Int) < (n : Int)) = false := fun e => by
          rw [← hb, decide_eq_true_iff] at e
          exact decide_eq_false (fun e2 => hg ⟨e, by omega⟩)
        have HEND := Lib.hid (show f = i → ∃ l', qwRow wy q g c l' ∧ HeapF l'.length (keyL l') ∧ (l'.map Prod.fst).Perm (l.map Prod.fst) ∧ Upd (· = g) w wy from fun e => ⟨l2, HROW.out, by
          subst e
          rw [HL2.out]
          exact dn_done HDN.out HFU.out, HPM.out, HUP.out⟩)
        clear hg hb
        by_cases hfi : f = i
        · have hE := Lib.hid (HEND.out hfi)
          subst hfi
          cases b with
          | false =>
            clear hq2
            go_wp2
            exact bodyPost_ret (v := .tuple #[]) (by simp [results, Tryz.results108, go_sem]) rfl ⟨rfl, hE.out⟩
          | true =>
            have hq3 := hq2 rfl
            have hq4 : decide (k < n) = false := by rw [← hq3]; congr 1; apply propext; omega
            clear hq2
            go_wp2
            exact bodyPost_ret (v := .tuple #[]) (by simp [results, Tryz.results108, go_sem]) rfl ⟨rfl, hE.out⟩
        · obtain ⟨c1, c2, c3⟩ : 2 * i + 1 ≤ f ∧ f < k ∧ f < n := HAT.out.resolve_left hfi
          have hfe : ((f : Int) == (i : Int)) = false := by rw [beq_eq_false_iff_ne]; omega
          have hfe2 : ¬ (f : Int) = (i : Int) := by omega
          have hil : (i : Int) < (n : Int) := by omega
          have hfl : (f : Int) < (n : Int) := by omega
          have hlen := HL2.out
          obtain ⟨a0, a1⟩ := HROW.out.cells (i := i) (by omega)
          obtain ⟨b0, b1⟩ := HROW.out.cells (i := f) (by omega)
          have HSW := Lib.hid (HROW.out.swap (i := i) (j := f) (by omega) (by omega))
          have HNX := Lib.hid (show ∃ l3 : List (Nat × Nat), l3 = swapL l2 i f ∧ l3.length = n ∧ DnF n (keyL l3) f ∧ (l3.map Prod.fst).Perm (l.map Prod.fst) from ⟨_, rfl, by rw [swapL_len]; exact hlen, by
            rw [key_swap (by omega) (by omega)]
            exact dn_step HDN.out (by omega) c3 (by omega) HSE.out HFU.out, ((swap_perm (by omega) (by omega)).map _).trans HPM.out⟩)
          have fz : ∀ j, wy.frozen? ⟨g, j, none⟩ = false := fun j => HROW.out.own.free j
          have f0 := fz (i * 2); have f1 := fz (i * 2 + 1); have f2 := fz (f * 2); have f3 := fz (f * 2 + 1)
          generalize l2.getD i (0, 0) = ei at *
          generalize l2.getD f (0, 0) = eu at *
          obtain ⟨l3, hl3, hl3n, hd3, hp3⟩ := HNX.out
          rw [← hl3] at HSW
          have HD3 := Lib.hid hd3; have HP3 := Lib.hid hp3; have HL3 := Lib.hid hl3n
          clear hl3 hl3n hd3 hp3 HNX fz hlen HAT HEND
          cases b with
          | false =>
            clear hq2
            go_upto_region 8 with (fail)
            go_region
            go_wp2
            go_roundw
            case rel => exact ⟨f, l3, rfl, by omega, .inr c3, HL3.out, HSW.out.stays rfl rfl, HD3.out, HP3.out, ((((HUP.out.set _ _ _ (.inl rfl)).set _ _ _ (.inl rfl)).set _ _ _ (.inl rfl)).set _ _ _ (.inl rfl)).drew⟩
            case measure => simp [intOf]; omega
          | true =>
            have hq3 := hq2 rfl
            have hq4 : decide (k < n) = false := by rw [← hq3]; congr 1; apply propext; omega
            clear hq2
            go_upto_region 8 with (fail)
            go_region
            go_wp2
            go_roundw
            case rel => exact ⟨f, l3, rfl, by omega, .inr c3, HL3.out, HSW.out.stays rfl rfl, HD3.out, HP3.out, ((((HUP.out.set _ _ _ (.inl rfl)).set _ _ _ (.inl rfl)).set _ _ _ (.inl rfl)).set _ _ _ (.inl rfl)).drew⟩
            case measure => simp [intOf]; omega
end Go.Proofs.YtbhfbdcmamodcaaGreatDoor
namespace Go.Proofs.YtbhfbdcmamodcaaGreatDoor
open Go.RowKit LgMath
def popL (l : List (Nat × Nat)) : List (Nat × Nat) := (l.set 0 (l.getD (l.length - 1) (0, 0))).take (l.length - 1)
theorem popL_len (l : List (Nat × Nat)) : (popL l).length = l.length - 1 := by unfold popL; rw [List.length_take, List.length_set]; omega
theorem popL_perm {l : List (Nat × Nat)} (h0 : 0 < l.length) : (l.map Prod.fst).Perm (keyL l 0 :: (popL l).map Prod.fst) := by
  cases l with
  | nil => simp at h0
  | cons a r =>
    rcases List.eq_nil_or_concat r with rfl | ⟨r', z, hz⟩
    · simp [popL, keyL]
    · rw [List.concat_eq_append] at hz
      subst hz
      have e1 : (a :: (r' ++ [z])).getD ((a :: (r' ++ [z])).length - 1) (0, 0) = z := by
        rw [List.getD_eq_getElem?_getD]
        simp
      unfold popL
      rw [e1]
      have e2 : ((a :: (r' ++ [z])).set 0 z).take ((a :: (r' ++ [z])).length - 1) = z :: r' := by simp
      rw [e2]
      show (a.1 :: (r' ++ [z]).map Prod.fst).Perm (a.1 :: (z.1 :: r'.map Prod.fst))
      refine List.Perm.cons _ ?_
      rw [List.map_append]
      exact List.perm_append_singleton _ _
theorem popL_dn {l : List (Nat × Nat)} (h : HeapF l.length (keyL l)) : DnF (popL l).length (keyL (popL l)) 0 := by
  by_cases h0 : l.length = 0
  · have : (popL l).length = 0 := by rw [popL_len]; omega
    rw [this]
    exact ⟨fun j h1 h2 => by omega, fun j h1 h2 => by omega⟩
  · rw [popL_len]
    rw [show l.length = l.length - 1 + 1 from by omega] at h
    refine dn_pop h fun j h1 h2 => ?_
    unfold keyL popL
    rw [List.getD_eq_getElem?_getD, List.getElem?_take_of_lt h2, List.getElem?_set_ne (by omega), List.getD_eq_getElem?_getD]
section
variable {w w' : World} {q g c : Nat} {l : List (Nat × Nat)}
theorem qwAt.row (h : qwAt w q (.slice (some ⟨g, 0, none⟩) l.length c) l) : qwRow w q g c l := ⟨h.box, h.own, fun e => h.ne (by simp [Value.ownBlock, e])⟩
theorem qwRow.put0 (h : qwRow w q g c l) (h0 : 0 < l.length) (x : Nat × Nat) : qwRow ((w.setCell ⟨g, 0, none⟩ (.int .i64 (x.1 : Nat))).setCell ⟨g, 1, none⟩ (.int .u64 (x.2 : Nat))) q g c (l.set 0 x) := by
  have := h.put h0 x
  rw [Nat.zero_mul, Nat.zero_add] at this
  exact this
theorem qwRow.putZ (h : qwRow w q g c l) {m : Nat} (hm : m < l.length) : qwRow ((w.setCell ⟨g, m * 2, none⟩ (.int .i64 0)).setCell ⟨g, m * 2 + 1, none⟩ (.int .u64 0)) q g c (l.set m (0, 0)) := h.put hm (0, 0)
theorem qwRow.cut (h : qwRow w q g c l) {m : Nat} (hm : m ≤ l.length) : qwRow (w.setCell ⟨q, 0, none⟩ (.slice (some ⟨g, 0, none⟩) m c)) q g c (l.take m) := by
  obtain ⟨⟨k, hk, a⟩, b, d⟩ := h
  have hl : (l.take m).length = m := by rw [List.length_take]; omega
  refine ⟨⟨k, hk, ?_⟩, ?_, d⟩
  · rw [hl]; exact heap_setCell_same w q 0 _ _ _ a
  · rw [hl]
    have h2 := b.stays (x := w.setCell ⟨q, 0, none⟩ (.slice (some ⟨g, 0, none⟩) m c)) (fun j e => by simp [Value.ownBlock] at e; subst e; exact heap_setCell_other _ _ _ _ d)
    obtain ⟨e1, e2⟩ := h2
    rcases e2 with ⟨e2, _⟩ | ⟨g', cap', cur, e2, e3, e4, e5, e6, e7, e8⟩
    · simp at e2
    · cases e2
      unfold OwnX
      rw [hl]
      refine ⟨by rw [flat_length entW, hl], .inr ⟨g, c, cur, rfl, e3, e4, by omega, e6, e7, ?_⟩⟩
      have e9 : (l.take m).flatMap entV = (l.flatMap entV).take (m * 2) := by
        have e10 : l.flatMap entV = (l.take m).flatMap entV ++ (l.drop m).flatMap entV := by rw [← List.flatMap_append, List.take_append_drop]
        conv => rhs; rw [e10, List.take_append_of_le_length (by rw [flat_length entW, hl]; exact Nat.le_refl _), List.take_of_length_le (by rw [flat_length entW, hl]; exact Nat.le_refl _)]
      rw [e9, ← e8, List.take_take, Nat.min_eq_left (by omega)]
end
def qwGot (w : World) (q : Nat) (v : Value) (l : List (Nat × Nat)) (w' : World) : Prop :=
  ∃ v' l', qwAt w' q v' l' ∧ (l.map Prod.fst).Perm (keyL l 0 :: l'.map Prod.fst) ∧ Upd (fun j => j = q ∨ v.ownBlock = some j) w w' ∧ v'.ownBlock = v.ownBlock
set_option maxHeartbeats 4000000 in
set_option maxRecDepth 100000 in
theorem qwPopNone {w : World} {q : Nat} {v : Value} (h : qwAt w q v []) : Calls Tryz.prog 49 #[.pointer (some ⟨q, 0, none⟩)] w fun e w' => e = .returned (.tuple #[.int .i64 0, .bool false]) ∧ w' = w := by
  have HP := Lib.hid (qwPeekNone h)
  clear h
  go_enter Tryz.func49, Tryz.ntmps49
  go_wp2_with fail
  (with_reducible refine HP.out.mono ?_)
  rintro e w1 ⟨rfl, rfl⟩
  go_wp2
  exact bodyPost_ret (v := .tuple #[.int .i64 0, .bool false]) (by simp [results, Tryz.results49, go_sem]) rfl ⟨rfl, rfl⟩
set_option maxHeartbeats 4000000 in
set_option maxRecDepth 100000 in
theorem qwPop {w : World} {q : Nat} {v : Value} {l : List (Nat × Nat)} (h : qwAt w q v l) (h0 : 0 < l.length) (hl : l.length ≤ 100000) :
    Calls Tryz.prog 49 #[.pointer (some ⟨q, 0, none⟩)] w fun e w' => e = .returned (.tuple #[.int .i64 (keyL l 0 : Nat), .bool true]) ∧ qwGot w q v l w' := by
  have HP := Lib.hid (qwPeek h h0)
  obtain ⟨g, c, rfl, _, hgl, hlc, hcm⟩ := h.own.form h0
  have hR := h.row
  obtain ⟨m, hm⟩ : ∃ m, l.length - 1 = m := ⟨_, rfl⟩
  obtain ⟨n, hn⟩ : ∃ n, l.length = n := ⟨_, rfl⟩
  have hmn : m + 1 = n := by omega
  have s0 := hR.at0
  obtain ⟨a0, a1⟩ := hR.cells (i := m) (by omega)
  obtain ⟨b0, b1⟩ := hR.cells (i := 0) h0
  rw [Nat.zero_mul] at b0 b1
  rw [Nat.zero_add] at b1
  have fz : ∀ j, w.frozen? ⟨g, j, none⟩ = false := fun j => hR.own.free j
  have HPR := Lib.hid (popL_perm h0)
  have HDN := Lib.hid (popL_dn h.heap)
  have HRW := Lib.hid (show ∀ (e : Nat × Nat), l.getD m (0, 0) = e → qwRow ((w.setCell ⟨g, 0, none⟩ (.int .i64 (e.1 : Nat))).setCell ⟨g, 1, none⟩ (.int .u64 (e.2 : Nat))) q g c (l.set 0 e) ∧ Upd (fun j => j = q ∨ (Value.slice (some ⟨g, 0, none⟩) n c).ownBlock = some j) w ((w.setCell ⟨g, 0, none⟩ (.int .i64 (e.1 : Nat))).setCell ⟨g, 1, none⟩ (.int .u64 (e.2 : Nat))) from fun e he => ⟨hR.put0 h0 e, ((Upd.refl _ w).set _ _ _ (.inl (.inr rfl))).set _ _ _ (.inl (.inr rfl))⟩)
  obtain ⟨lm, hlm⟩ : ∃ e, l.getD m (0, 0) = e := ⟨_, rfl⟩
  have HRW1 := Lib.hid (HRW.out lm hlm)
  have HPL := Lib.hid (show popL l = (l.set 0 lm).take m from by unfold popL; rw [hm, hlm])
  have HNE := Lib.hid hR.ne
  rw [hlm] at a0 a1
  rw [hn] at s0 hlc ⊢
  have HN := Lib.hid hn
  have f0 := fz 0; have f1 := fz 1
  have hw1 : IntKind.i64.wrap ((n : Int) - 1) = (m : Int) := by rw [IntWalk.i64_in _ (by omega)]; omega
  have hw2 : (n : Int) - 1 = (m : Int) := by omega
  have hw3 : wrap64 (m : Int) = (m : Int) := IntWalk.wrap64_in _ (by omega)
  have hml : (m : Int) < (n : Int) := by omega
  have hn0 : (0 : Int) < (n : Int) := by omega
  have hmc : (m : Int) ≤ (c : Int) := by omega
  have hx : keyL l 0 = (l.getD 0 (0, 0)).1 := rfl
  obtain ⟨x, hx'⟩ : ∃ x, keyL l 0 = x := ⟨_, rfl⟩
  rw [hx'] at HPR HP hx ⊢
  rw [← hx] at b0
  clear hx
  have hx' := Lib.hid hx'
  clear h hR hm hlm HRW fz h0 hn
  go_enter Tryz.func49, Tryz.ntmps49
  go_wp2_with fail
  (with_reducible refine HP.out.mono ?_)
  rintro e w1 ⟨rfl, rfl⟩
  go_upto_region 5 with (fail)
  go_region
  obtain ⟨hr, hu⟩ := HRW1.out
  obtain ⟨X1, hX1⟩ : ∃ X1, ((w1.setCell ⟨g, 0, none⟩ (.int .i64 (lm.1 : Nat))).setCell ⟨g, 1, none⟩ (.int .u64 (lm.2 : Nat))).drew = X1 := ⟨_, rfl⟩
  have hr1 : qwRow X1 q g c (l.set 0 lm) := by rw [← hX1]; exact hr.stays rfl rfl
  have hu1 : Upd (fun j => j = q ∨ (Value.slice (some ⟨g, 0, none⟩) n c).ownBlock = some j) w1 X1 := by rw [← hX1]; exact hu.drew
  rw [hX1]
  clear hr hu hX1 HRW1 s0 a0 a1 b0 b1 f0 f1
  have hl1 : (l.set 0 lm).length = n := by rw [List.length_set]; exact HN.out
  have s1 := hr1.at0
  rw [hl1] at s1
  obtain ⟨a0, a1⟩ := hr1.cells (i := m) (by omega)
  have fz : ∀ j, X1.frozen? ⟨g, j, none⟩ = false := fun j => hr1.own.free j
  have f0 := fz (m * 2); have f1 := fz (m * 2 + 1)
  have hr2 := hr1.putZ (m := m) (by omega)
  have hu2 := (hu1.set g (m * 2) (.int .i64 0) (.inl (.inr rfl))).set g (m * 2 + 1) (.int .u64 0) (.inl (.inr rfl))
  obtain ⟨X2, hX2⟩ : ∃ X2, (X1.setCell ⟨g, m * 2, none⟩ (.int .i64 0)).setCell ⟨g, m * 2 + 1, none⟩ (.int .u64 0) = X2 := ⟨_, rfl⟩
  rw [hX2] at hr2 hu2
  have HX2 := Lib.hid hX2; have HR2 := Lib.hid hr2; have HU2 := Lib.hid hu2; have HL1 := Lib.hid hl1
  clear hr1 hu1 hr2 hu2 hX2 fz
  go_upto_region 7 with (fail)
  rw [HX2.out]
  have s2 := HR2.out.at0
  rw [List.length_set, HL1.out] at s2
  obtain ⟨k2, hk2, hb2⟩ := HR2.out.box
  have fq : X2.frozen? ⟨q, 0, none⟩ = false := frozen_of_row _ _ _ _ _ hb2
  have hr3 := HR2.out.cut (m := m) (by rw [List.length_set, HL1.out]; omega)
  have hu3 := HU2.out.set q 0 (.slice (some ⟨g, 0, none⟩) m c) (.inl (.inl rfl))
  have e3 : ((l.set 0 lm).set m (0, 0)).take m = popL l := by rw [List.take_set_of_le (Nat.le_refl _), HPL.out]
  rw [e3] at hr3
  obtain ⟨X3, hX3⟩ : ∃ X3, X2.setCell ⟨q, 0, none⟩ (.slice (some ⟨g, 0, none⟩) m c) = X3 := ⟨_, rfl⟩
  rw [hX3] at hr3 hu3
  have HS := Lib.hid (qwSink hr3 HDN.out (by have := HN.out; rw [HPL.out, List.length_take, HL1.out]; omega))
  have HU3 := Lib.hid hu3; have HX3 := Lib.hid hX3
  clear hr3 hu3 hX3 e3 hk2 hb2 s1 a0 a1 f0 f1
  go_upto_region 8 with (fail)
  rw [HX3.out]
  go_wp2_with fail
  (with_reducible refine HS.out.mono ?_)
  rintro e w4 ⟨rfl, l', hr4, hh4, hp4, hu4⟩
  have HEND := Lib.hid (show ∃ v' l', qwAt w4 q v' l' ∧ (l.map Prod.fst).Perm (x :: l'.map Prod.fst) ∧ Upd (fun j => j = q ∨ (Value.slice (some ⟨g, 0, none⟩) n c).ownBlock = some j) w1 w4 ∧ v'.ownBlock = (Value.slice (some ⟨g, 0, none⟩) n c).ownBlock from ⟨_, l', hr4.at_ hh4, HPR.out.trans (hp4.symm.cons _), HU3.out.trans hu4 (fun j e => .inl (.inr (by subst e; rfl))), rfl⟩)
  clear hr4 hh4 hp4 hu4
  go_wp2
  exact bodyPost_ret (v := .tuple #[.int .i64 (x : Nat), .bool true]) (by simp [results, Tryz.results49, go_sem]) rfl ⟨rfl, by
    obtain ⟨v', l', k1, k2, k3, k4⟩ := HEND.out
    exact ⟨v', l', k1, by rw [hx'.out]; exact k2, k3, k4⟩⟩
set_option maxRecDepth 100000 in
theorem qwNew (w : World) : Calls Tryz.prog 106 #[.slice none 0 0] w fun e w' => ∃ q, e = .returned (.pointer (some ⟨q, 0, none⟩)) ∧ qwAt w' q (.slice none 0 0) [] ∧ w.heap.size ≤ q ∧ Below w.heap.size w w' := by
  obtain ⟨W1, hW1⟩ : ∃ W1, w.alloc (.cells #[.slice none 0 0, .int .u64 0] 199) = W1 := ⟨_, rfl⟩
  have hb1 : Below w.heap.size w W1 := by rw [← hW1]; exact bl_alloc (Below.refl _ w) _
  have hs1 : W1.heap[w.heap.size]? = some (.cells #[.slice none 0 0, .int .u64 ((0 : Nat) : Int)] 199 (0, 0)) := by rw [← hW1]; exact heap_alloc_new _ _
  have HA := Lib.hid (show qwAt W1 w.heap.size (.slice none 0 0) [] from ⟨⟨0, by decide, hs1⟩, OwnX.nil _ _ _ _ _, by simp [Value.ownBlock], fun j h1 h2 => by simp at h2⟩)
  have HW := Lib.hid hW1; have HB := Lib.hid hb1
  clear hW1 hb1 hs1
  go_enter Tryz.func106, Tryz.ntmps106
  go_upto_region 2 with (fail)
  rw [HW.out]
  go_wp2_with fail
  go_loopw [10] (fun iv wr => iv = .int .i64 0 ∧ wr = W1) (fun _ _ => 0)
  case atStart => exact ⟨rfl, rfl⟩
  case round =>
    obtain ⟨rfl, rfl⟩ := hrel
    go_wp2
    go_ret
    exact ⟨_, rfl, HA.out, Nat.le_refl _, HB.out⟩
end Go.Proofs.YtbhfbdcmamodcaaGreatDoor
namespace Go.Proofs.YtbhfbdcmamodcaaGreatDoor
open Go.RowKit LgMath
section
variable {w w' : World} {q g c : Nat} {l : List (Nat × Nat)}
theorem qbRow.at1 (h : qbRow w q g c l) : ∃ k : Nat, k < 18446744073709551616 ∧ w.cell? ⟨q, 1, none⟩ = some (.int .u64 (k : Nat)) ∧ w.frozen? ⟨q, 1, none⟩ = false := by
  obtain ⟨⟨k, hk, a⟩, _⟩ := h
  exact ⟨k, hk, by rw [cell_of_row _ _ _ _ _ _ a]; rfl, frozen_of_row _ _ _ _ _ a⟩
theorem qbRow.next (h : qbRow w q g c l) {k : Nat} (hk : k < 18446744073709551616) : qbRow (w.setCell ⟨q, 1, none⟩ (.int .u64 (k : Nat))) q g c l := by
  obtain ⟨⟨k0, hk0, a⟩, b, d⟩ := h
  exact ⟨⟨k, hk, heap_setCell_same w q 1 _ _ _ a⟩, b.stays (fun j e => by simp [Value.ownBlock] at e; subst e; exact heap_setCell_other _ _ _ _ d), d⟩
theorem qbPushed {w W w5 : World} {q gg cap n : Nat} {v : Value} {l : List (Nat × Nat)} {x : Nat × Nat} (h : qbAt w q v l) (hn : l.length = n) (hg : W.grownBy w5 v.ownBlock) (hown : w5.ownsRow 0 322 2 (.slice (some ⟨gg, 0, none⟩) (n + 1) cap) (n + 1) (l.flatMap entV ++ entV x)) (hat : v.ownBlock = some gg ∨ gg = W.heap.size) (hb : Below w.heap.size w W) :
    qbRow (w5.setCell ⟨q, 0, none⟩ (.slice (some ⟨gg, 0, none⟩) (n + 1) cap)) q gg cap (l ++ [x]) ∧ Upd (fun j => j = q ∨ v.ownBlock = some j) w (w5.setCell ⟨q, 0, none⟩ (.slice (some ⟨gg, 0, none⟩) (n + 1) cap)) ∧ (v.ownBlock = some gg ∨ w.heap.size ≤ gg) := by
  subst hn
  have hql := h.lt.1
  have hbz := hb.size
  have hne : gg ≠ q := by
    rcases hat with e | e
    · intro e2; exact h.ne (by rw [e, e2])
    · omega
  have ho : OwnX 322 2 entV w5 0 (.slice (some ⟨gg, 0, none⟩) (l.length + 1) cap) (l ++ [x]) := OwnX.push (enc := entV) (m := [x]) hown (by simp) (by simp)
  obtain ⟨⟨k, hk, a⟩, b, c, d⟩ := h
  have a5 := (hg.block q (by omega) (fun e => c e.symm)).trans ((hb.block q hql).trans a)
  have hl : (l ++ [x]).length = l.length + 1 := by simp
  refine ⟨⟨⟨k, hk, ?_⟩, ?_, hne⟩, ?_, ?_⟩
  · rw [hl]; exact heap_setCell_same w5 q 0 _ _ _ a5
  · rw [hl]; exact ho.stays fun j e => by simp [Value.ownBlock] at e; subst e; exact heap_setCell_other _ _ _ _ hne
  · exact (((Upd.of hb).grown hg fun j e => .inl (.inr e))).set _ _ _ (.inl (.inl rfl))
  · rcases hat with e | e
    · exact .inl e
    · exact .inr (by omega)
end
theorem qbRow.at_ {w : World} {q g c : Nat} {l : List (Nat × Nat)} (h : qbRow w q g c l) (hh : HeapF l.length (keyL l)) : qbAt w q (.slice (some ⟨g, 0, none⟩) l.length c) l := by
  obtain ⟨a, b, d⟩ := h
  exact ⟨a, b, fun e => by simp [Value.ownBlock] at e; exact d e, hh⟩
theorem qbKeyPush (l : List (Nat × Nat)) (x : Nat × Nat) : ∀ j, j < l.length → keyL (l ++ [x]) j = keyL l j := fun j hj => by
  unfold keyL
  rw [List.getD_eq_getElem?_getD, List.getElem?_append_left hj, List.getD_eq_getElem?_getD]
def qbPut (w : World) (q : Nat) (v : Value) (l : List (Nat × Nat)) (x : Nat) (w' : World) : Prop :=
  ∃ v' l', qbAt w' q v' l' ∧ (l'.map Prod.fst).Perm (x :: l.map Prod.fst) ∧ Upd (fun j => j = q ∨ v.ownBlock = some j) w w' ∧ (∀ j, v'.ownBlock = some j → v.ownBlock = some j ∨ w.heap.size ≤ j)
set_option maxHeartbeats 4000000 in
set_option maxRecDepth 100000 in
theorem qbPush {w : World} {q : Nat} {v : Value} {l : List (Nat × Nat)} (h : qbAt w q v l) (x : Nat) (hl : l.length ≤ 100000) :
    Calls Tryz.prog 178 #[.pointer (some ⟨q, 0, none⟩), .int .i64 (x : Nat)] w fun e w' => e = .returned (.tuple #[]) ∧ qbPut w q v l x w' := by
  obtain ⟨i0, hi, hz0, hz1, hz2⟩ := info_parts qbInfo
  have H0 := Lib.hid h
  obtain ⟨⟨k, hk, a⟩, hown, hne, hheap⟩ := h
  obtain ⟨sa, sc, rfl, _, hsc, hscm, _, _⟩ := hown.sl
  obtain ⟨n, hn⟩ : ∃ n, l.length = n := ⟨_, rfl⟩
  rw [hn] at hown hne a H0 hl hsc hheap ⊢
  have c0 : w.cell? ⟨q, 0, none⟩ = some (.slice sa n sc) := by rw [cell_of_row _ _ _ _ _ _ a]; rfl
  have c1 : w.cell? ⟨q, 1, none⟩ = some (.int .u64 (k : Nat)) := by rw [cell_of_row _ _ _ _ _ _ a]; rfl
  have c0' : ∀ o, (w.alloc o).cell? ⟨q, 0, none⟩ = some (.slice sa n sc) := fun o => cell_al c0 o
  have c1' : ∀ o, (w.alloc o).cell? ⟨q, 1, none⟩ = some (.int .u64 (k : Nat)) := fun o => cell_al c1 o
  have HO := Lib.hid hown
  have HAF := Lib.hid (show ∀ W y, Below w.heap.size w W → W.grownBy y (Value.slice sa n sc).ownBlock → y.cell? ⟨q, 0, none⟩ = some (.slice sa n sc) ∧ y.frozen? ⟨q, 0, none⟩ = false from fun W y hx hy => by
    have hql := (Array.getElem?_eq_some_iff.1 a).1
    have := (hy.block q (Nat.lt_of_lt_of_le hql hx.size) (fun e => hne e.symm)).trans ((hx.block q hql).trans a)
    exact ⟨by rw [cell_of_row _ _ _ _ _ _ this]; rfl, frozen_of_row _ _ _ _ _ this⟩)
  have HHP := Lib.hid hheap; have HNN := Lib.hid hn; have HK := Lib.hid hk
  have HOB := Lib.hid (show ∀ W, Below w.heap.size w W → W.ownsRow 0 322 2 (.slice sa n sc) n (l.flatMap entV) from fun W hb => by
    have := OwnX.below hown hb
    unfold OwnX at this
    rwa [hn] at this)
  clear a hown hne hheap hn hsc hscm
  go_enter Tryz.func178, Tryz.ntmps178
  go_upto_region 1 with (fail)
  go_cut [] from 8 (fun wr => ∃ gg cp, qbRow wr q gg cp (l ++ [(x, k)]) ∧ Upd (fun j => j = q ∨ (Value.slice sa n sc).ownBlock = some j) w wr ∧ ((Value.slice sa n sc).ownBlock = some gg ∨ w.heap.size ≤ gg))
  case first =>
    go_wp2_with fail
    go_region_law (refine step_append_lies _ rfl (.tmp 12) (.tmp 19) 277 rfl 0 322 i0 (.agg #[.int .i64 0, .int .u64 0]) 2 16 Tryz.underlying277 hi hz0 hz1 hz2 rfl (by decide) (.slice sa n sc) n (l.flatMap entV) rfl (HOB.out _ (by repeat (first | exact Below.refl _ w | refine bl_alloc ?_ _ | refine bl_drew ?_ | refine bl_drewN ?_ _))) _ 1 1 (entV (x, k)) rfl rfl (cells_new _ (entV (x, k)) _ (by simp)) (by intro u hu; simp [entV] at hu; rcases hu with rfl | rfl <;> rfl) (by decide) (by unfold maxLen; omega) (by omega) (Nat.zero_le _) _ rfl ?_; intro gg cp w5 hown hg hat hlt5; obtain ⟨hs5, hz5⟩ := HAF.out _ w5 (by repeat (first | exact Below.refl _ w | refine bl_alloc ?_ _ | refine bl_drew ?_ | refine bl_drewN ?_ _)) hg)
    all_goals
      obtain ⟨hR1, hU1, hG1⟩ := qbPushed (x := (x, k)) (l := l) H0.out HNN.out hg hown hat (by repeat (first | exact Below.refl _ w | refine bl_alloc ?_ _ | refine bl_drew ?_ | refine bl_drewN ?_ _))
      go_wp2
      go_meet
      case rel => exact ⟨gg, cp, hR1, hU1, hG1⟩
  case rest =>
    obtain ⟨gg, cp, hR1, hU1, hG1⟩ := hcut
    clear c0 c1 c0' c1'
    obtain ⟨X1, hX1⟩ : ∃ X1 : World, X1 = wc := ⟨_, rfl⟩
    subst hX1
    obtain ⟨k1, hk1, e1, f1⟩ := hR1.at1
    have hwr : IntKind.u64.wrap ((k1 : Int) + 1) = (((k1 + 1) % 18446744073709551616 : Nat) : Int) := by rw [IntKind.wrap_u64]; omega
    have hR2 := hR1.next (k := (k1 + 1) % 18446744073709551616) (Nat.mod_lt _ (by decide))
    have hU2 := hU1.set q 1 (.int .u64 (((k1 + 1) % 18446744073709551616 : Nat) : Int)) (.inl (.inl rfl))
    clear hR1 hU1
    generalize (k1 + 1) % 18446744073709551616 = k2 at *
    obtain ⟨X2, hX2⟩ : ∃ X2, X1.setCell ⟨q, 1, none⟩ (.int .u64 (k2 : Int)) = X2 := ⟨_, rfl⟩
    rw [hX2] at hR2 hU2
    have e2 := hR2.at0
    have hl1 : (l ++ [(x, k)]).length = n + 1 := by rw [List.length_append, HNN.out]; rfl
    rw [hl1] at e2
    have HG2 := Lib.hid (show (gg = q ∨ (Value.slice sa n sc).ownBlock = some gg) ∨ w.heap.size ≤ gg from hG1.imp .inr id)
    have HSUB := Lib.hid (show ∀ (m c : Nat) j, (Value.slice (some ⟨gg, 0, none⟩) m c).ownBlock = some j → (Value.slice sa n sc).ownBlock = some j ∨ w.heap.size ≤ j from fun m c j e => by simp [Value.ownBlock] at e; subst e; exact hG1)
    have HR2 := Lib.hid hR2; have HU2 := Lib.hid hU2; have HG := Lib.hid hG1; have HL1 := Lib.hid hl1; have HX2 := Lib.hid hX2
    clear hR2 hU2 hG1 hl1 hX2
    have hw1 : IntKind.i64.wrap (((n + 1 : Nat) : Int) - 1) = (n : Int) := by rw [IntWalk.i64_in _ (by omega)]; omega
    go_upto_region 3 with (fail)
    rw [HX2.out]
    go_wp2_with fail
    go_loopw [4] (fun iv wr => ∃ (i : Nat) (l2 : List (Nat × Nat)), iv = .int .i64 i ∧ i < n + 1 ∧ l2.length = n + 1 ∧ qbRow wr q gg cp l2 ∧ UpF (n + 1) (keyL l2) i ∧ (l2.map Prod.fst).Perm (x :: l.map Prod.fst) ∧ Upd (fun j => j = q ∨ (Value.slice sa n sc).ownBlock = some j) w wr) (fun iv _ => (intOf iv).toNat)
    case atStart =>
      refine ⟨n, l ++ [(x, k)], rfl, Nat.lt_succ_self n, HL1.out, HR2.out, ?_, ?_, HU2.out⟩
      · exact up_push HHP.out fun j hj => qbKeyPush l _ j (by rw [HNN.out]; exact hj)
      · rw [List.map_append]; exact List.perm_append_singleton _ _
    case round =>
      obtain ⟨i, l2, rfl, hin, hl2, hrow, hup, hpm, hupd⟩ := hrel
      obtain ⟨wq, hwq⟩ : ∃ wq : World, wq = wr := ⟨_, rfl⟩
      subst hwq
      have HR := Lib.hid hrow; have HUP := Lib.hid hup; have HPM := Lib.hid hpm; have HUD := Lib.hid hupd; have HL2 := Lib.hid hl2
      clear HR2 HU2 HX2 e1 e2 f1 HOB HAF HO H0
      by_cases h0 : 0 < i
      · obtain ⟨u, hu⟩ : ∃ u, (i - 1) / 2 = u := ⟨_, rfl⟩
        have hui : u < i := by omega
        have huz : ((i : Int) - 1) / 2 = (u : Int) := by omega
        have huz2 : Int.tdiv ((i : Int) - 1) 2 = (u : Int) := by rw [Int.tdiv_eq_ediv_of_nonneg (by omega)]; exact huz
        have hw3 : IntKind.i64.wrap ((i : Int) - 1) = (i : Int) - 1 := IntWalk.i64_in _ (by omega)
        obtain ⟨a0, a1⟩ := hrow.cells (i := i) (by omega)
        obtain ⟨b0, b1⟩ := hrow.cells (i := u) (by omega)
        have s0 := hrow.at0
        rw [hl2] at s0
        have HKI := Lib.hid (show keyL l2 i = (l2.getD i (0, 0)).1 from rfl)
        have HKU := Lib.hid (show keyL l2 u = (l2.getD u (0, 0)).1 from rfl)
        have HSW := Lib.hid (fun W (hb : Below wq.heap.size wq W) => (hrow.below hb).swap (i := i) (j := u) (by omega) (by omega))
        have HHU := Lib.hid hu
        generalize l2.getD i (0, 0) = ei at *
        generalize l2.getD u (0, 0) = eu at *
        have C0 : ∀ z : Past wq, z.x.cell? ⟨q, 0, none⟩ = some (.slice (some ⟨gg, 0, none⟩) (n + 1) cp) := fun z => bl_cell z.b s0
        have C1 : ∀ z : Past wq, z.x.cell? ⟨gg, i * 2, none⟩ = some (.int .i64 (ei.1 : Nat)) := fun z => bl_cell z.b a0
        have C2 : ∀ z : Past wq, z.x.cell? ⟨gg, i * 2 + 1, none⟩ = some (.int .u64 (ei.2 : Nat)) := fun z => bl_cell z.b a1
        have C3 : ∀ z : Past wq, z.x.cell? ⟨gg, u * 2, none⟩ = some (.int .i64 (eu.1 : Nat)) := fun z => bl_cell z.b b0
        have C4 : ∀ z : Past wq, z.x.cell? ⟨gg, u * 2 + 1, none⟩ = some (.int .u64 (eu.2 : Nat)) := fun z => bl_cell z.b b1
        obtain ⟨t, ht⟩ : ∃ t, aheadB ei eu = t := ⟨_, rfl⟩
        have HC := Lib.hid (fun z : Past wq => Calls.past z.b (qbAhead ei eu z.x))
        rw [ht] at HC
        unfold entV at HC
        have HT := Lib.hid ht
        have hil : (i : Int) < ((n + 1 : Nat) : Int) := by omega
        have hul : (u : Int) < ((n + 1 : Nat) : Int) := by omega
        have hi0 : decide ((i : Int) > 0) = true := decide_eq_true (by omega)
        have hi00 : decide (0 < i) = true := decide_eq_true h0
        have HCEL := Lib.hid (fun W (hb : Below wq.heap.size wq W) => show W.cell? ⟨q, 0, none⟩ = some (.slice (some ⟨gg, 0, none⟩) (n + 1) cp) ∧ W.cell? ⟨gg, i * 2, none⟩ = some (.int .i64 (ei.1 : Nat)) ∧ W.cell? ⟨gg, i * 2 + 1, none⟩ = some (.int .u64 (ei.2 : Nat)) ∧ W.cell? ⟨gg, u * 2, none⟩ = some (.int .i64 (eu.1 : Nat)) ∧ W.cell? ⟨gg, u * 2 + 1, none⟩ = some (.int .u64 (eu.2 : Nat)) ∧ ∀ j, W.frozen? ⟨gg, j, none⟩ = false from ⟨bl_cell hb s0, bl_cell hb a0, bl_cell hb a1, bl_cell hb b0, bl_cell hb b1, fun j => (hrow.below hb).own.free j⟩)
        clear hrow hup hpm hupd hl2 hu ht a0 a1 b0 b1 s0
        cases t with
        | false =>
          go_upto_region 6 with (fail)
          refine wp_region_past (by kernel_rfl) (by kernel_rfl) ?_
          repeat (go_big_quiet_step ((go_at_call 218; (with_reducible exact HC.out _))))
          refine wpQuiet_nil ?_
          intro _ hw'
          obtain ⟨pq, hw''⟩ := hw'
          subst hw''
          have HBq := Lib.hid pq.b
          generalize pq.x = Wc at *
          have HEND := Lib.hid (show qbPut w q (.slice sa n sc) l x Wc from ⟨_, l2, (HR.out.below HBq.out).at_ (up_done (by rw [HL2.out]; exact HUP.out) (.inr (by rw [HHU.out, HKI.out, HKU.out]; exact ahead_no HT.out))), HPM.out, HUD.out.thenB HBq.out, HSUB.out _ _⟩)
          go_wp2
          first | (exact bodyPost_ret (v := .tuple #[]) (by simp [results, Tryz.results178, go_sem]) rfl ⟨rfl, HEND.out⟩) | (exact bodyPost_end (v := .tuple #[]) (by simp [results, Tryz.results178, go_sem]) rfl ⟨rfl, HEND.out⟩) | (trace_state; fail)
        | true =>
          go_upto_region 6 with (fail)
          refine wp_region_past (by kernel_rfl) (by kernel_rfl) ?_
          repeat (go_big_quiet_step ((go_at_call 218; (with_reducible exact HC.out _))))
          refine wpQuiet_nil ?_
          intro _ hw'
          obtain ⟨pq, hw''⟩ := hw'
          subst hw''
          have HBq := Lib.hid pq.b
          obtain ⟨s0, a0, a1, b0, b1, fz⟩ := HCEL.out _ pq.b
          have f0 := fz (i * 2); have f1 := fz (i * 2 + 1); have f2 := fz (u * 2); have f3 := fz (u * 2 + 1)
          clear fz C0 C1 C2 C3 C4
          generalize pq.x = Wc at *
          go_wp2_with fail
          go_region
          go_wp2
          go_roundw
          case rel =>
            refine ⟨u, swapL l2 i u, rfl, by omega, by rw [swapL_len]; exact HL2.out, (HSW.out Wc HBq.out).stays rfl rfl, ?_, ?_, ?_⟩
            · rw [key_swap (by rw [HL2.out]; exact hin) (by rw [HL2.out]; omega), ← HHU.out]
              refine up_step HUP.out h0 hin ?_
              rw [HHU.out, HKI.out, HKU.out]
              exact ahead_yes HT.out
            · exact ((swap_perm (by rw [HL2.out]; exact hin) (by rw [HL2.out]; omega)).map _).trans HPM.out
            · exact (((((HUD.out.thenB HBq.out).set _ _ _ HG2.out).set _ _ _ HG2.out).set _ _ _ HG2.out).set _ _ _ HG2.out).drew
          case measure => simp [intOf]; omega
      · obtain rfl : i = 0 := by omega
        have HEND := Lib.hid (show qbPut w q (.slice sa n sc) l x wq from ⟨_, l2, HR.out.at_ (up_done (by rw [HL2.out]; exact HUP.out) (.inl rfl)), HPM.out, HUD.out, HSUB.out _ _⟩)
        go_wp2
        first | (exact bodyPost_ret (v := .tuple #[]) (by simp [results, Tryz.results178, go_sem]) rfl ⟨rfl, HEND.out⟩) | (exact bodyPost_end (v := .tuple #[]) (by simp [results, Tryz.results178, go_sem]) rfl ⟨rfl, HEND.out⟩) | (trace_state; fail)
end Go.Proofs.YtbhfbdcmamodcaaGreatDoor
namespace Go.Proofs.YtbhfbdcmamodcaaGreatDoor
open Go.RowKit LgMath
structure qbBest (key : Nat → Nat) (n i k f : Nat) : Prop where
  lo : 2 * i + 1 ≤ k
  hi : k ≤ 2 * i + 3
  at_ : f = i ∨ (2 * i + 1 ≤ f ∧ f < k ∧ f < n)
  self : key i ≤ key f
  all : ∀ j, 2 * i + 1 ≤ j → j < k → j < n → key j ≤ key f
theorem qbBest.start (key : Nat → Nat) (n i : Nat) : qbBest key n i (2 * i + 1) i := ⟨by omega, by omega, .inl rfl, Nat.le_refl _, fun j h1 h2 => by omega⟩
theorem qbBest.take {key : Nat → Nat} {n i k f : Nat} (h : qbBest key n i k f) (hk : k ≤ 2 * i + 2) (hn : k < n) (hc : key f ≤ key k) : qbBest key n i (k + 1) k :=
  ⟨by have := h.lo; omega, by omega, .inr ⟨h.lo, by omega, hn⟩, Nat.le_trans h.self hc, fun j h1 h2 h3 => by
    by_cases e : j = k
    · rw [e]; exact Nat.le_refl _
    · exact Nat.le_trans (h.all j h1 (by omega) h3) hc⟩
theorem qbBest.keep {key : Nat → Nat} {n i k f : Nat} (h : qbBest key n i k f) (hk : k ≤ 2 * i + 2) (hc : key k ≤ key f) : qbBest key n i (k + 1) f :=
  ⟨by have := h.lo; omega, by omega, h.at_.imp id fun ⟨a, b, c⟩ => ⟨a, by omega, c⟩, h.self, fun j h1 h2 h3 => by
    by_cases e : j = k
    · rw [e]; exact hc
    · exact h.all j h1 (by omega) h3⟩
theorem qbBest.full {key : Nat → Nat} {n i k f : Nat} (h : qbBest key n i k f) (hk : ¬ (k ≤ 2 * i + 2 ∧ k < n)) : ∀ j, 0 < j → j < n → (j - 1) / 2 = i → key j ≤ key f := fun j h1 h2 h3 => by
  have := h.lo
  exact h.all j (by omega) (by omega) h2
set_option maxHeartbeats 4000000 in
set_option maxRecDepth 100000 in
theorem qbSink {w : World} {q g c : Nat} {l : List (Nat × Nat)} (h : qbRow w q g c l) (hd : DnF l.length (keyL l) 0) (hl : l.length ≤ 100000) :
    Calls Tryz.prog 220 #[.pointer (some ⟨q, 0, none⟩)] w fun e w' => e = .returned (.tuple #[]) ∧ ∃ l', qbRow w' q g c l' ∧ HeapF l'.length (keyL l') ∧ (l'.map Prod.fst).Perm (l.map Prod.fst) ∧ Upd (· = g) w w' := by
  obtain ⟨n, hn⟩ : ∃ n, l.length = n := ⟨_, rfl⟩
  rw [hn] at hd hl
  have H0 := Lib.hid h; have HD0 := Lib.hid hd; have HN := Lib.hid hn
  clear h hd hn
  go_enter Tryz.func220, Tryz.ntmps220
  go_wp2_with fail
  go_loopw [2] (fun iv wr => ∃ (i : Nat) (l2 : List (Nat × Nat)), iv = .int .i64 i ∧ i ≤ n ∧ (i = 0 ∨ i < n) ∧ l2.length = n ∧ qbRow wr q g c l2 ∧ DnF n (keyL l2) i ∧ (l2.map Prod.fst).Perm (l.map Prod.fst) ∧ Upd (· = g) w wr) (fun iv _ => n - (intOf iv).toNat)
  case atStart => exact ⟨0, l, rfl, Nat.zero_le _, .inl rfl, HN.out, H0.out, HD0.out, List.Perm.refl _, Upd.refl _ _⟩
  case round =>
    obtain ⟨i, l2, rfl, hin, hin2, hl2, hrow, hdn, hpm, hupd⟩ := hrel
    obtain ⟨wq, hwq⟩ : ∃ wq : World, wq = wr := ⟨_, rfl⟩
    subst hwq
    have HR := Lib.hid hrow; have HDN := Lib.hid hdn; have HPM := Lib.hid hpm; have HUD := Lib.hid hupd; have HL2 := Lib.hid hl2; have HI2 := Lib.hid hin2
    clear hrow hdn hpm hupd hl2 hin2 H0 HD0 HN
    go_wp2_with fail
    go_loopw [3, 4] (fun fv kv wr => ∃ (f k : Nat), fv = .int .i64 f ∧ kv = .int .i64 k ∧ qbBest (keyL l2) n i k f ∧ Below wq.heap.size wq wr) (fun _ kv _ => 2 * i + 3 - (intOf kv).toNat)
    case atStart => exact ⟨i, 2 * i + 1, rfl, by go_num, qbBest.start _ _ _, Below.refl _ _⟩
    case round =>
      obtain ⟨f, k, rfl, rfl, hbest, hbel⟩ := hrel
      obtain ⟨wy, hwy⟩ : ∃ wy : World, wy = wr := ⟨_, rfl⟩
      subst hwy
      have hk1 := hbest.lo
      have hk2 := hbest.hi
      have hfb : f ≤ 200003 := by rcases hbest.at_ with e | e <;> omega
      have HBS := Lib.hid hbest; have HBL := Lib.hid hbel
      have hrow := HR.out.below hbel
      have s0 := hrow.at0
      rw [HL2.out] at s0
      by_cases hg : k ≤ 2 * i + 2 ∧ k < n
      · have hfn : f < n := by
          have := HI2.out
          rcases hbest.at_ with e | e
          · omega
          · exact e.2.2
        obtain ⟨a0, a1⟩ := hrow.cells (i := k) (by have := HL2.out; omega)
        obtain ⟨b0, b1⟩ := hrow.cells (i := f) (by have := HL2.out; omega)
        have HKI := Lib.hid (show keyL l2 k = (l2.getD k (0, 0)).1 from rfl)
        have HKU := Lib.hid (show keyL l2 f = (l2.getD f (0, 0)).1 from rfl)
        generalize l2.getD k (0, 0) = ei at *
        generalize l2.getD f (0, 0) = eu at *
        have C0 : ∀ z : Past wy, z.x.cell? ⟨q, 0, none⟩ = some (.slice (some ⟨g, 0, none⟩) n c) := fun z => bl_cell z.b s0
        have C1 : ∀ z : Past wy, z.x.cell? ⟨g, k * 2, none⟩ = some (.int .i64 (ei.1 : Nat)) := fun z => bl_cell z.b a0
        have C2 : ∀ z : Past wy, z.x.cell? ⟨g, k * 2 + 1, none⟩ = some (.int .u64 (ei.2 : Nat)) := fun z => bl_cell z.b a1
        have C3 : ∀ z : Past wy, z.x.cell? ⟨g, f * 2, none⟩ = some (.int .i64 (eu.1 : Nat)) := fun z => bl_cell z.b b0
        have C4 : ∀ z : Past wy, z.x.cell? ⟨g, f * 2 + 1, none⟩ = some (.int .u64 (eu.2 : Nat)) := fun z => bl_cell z.b b1
        obtain ⟨t, ht⟩ : ∃ t, aheadB ei eu = t := ⟨_, rfl⟩
        have HC := Lib.hid (fun z : Past wy => Calls.past z.b (qbAhead ei eu z.x))
        rw [ht] at HC
        unfold entV at HC
        have HT := Lib.hid ht
        obtain ⟨g1, g2⟩ := hg
        have hkl : (k : Int) < (n : Int) := by omega
        have hfl : (f : Int) < (n : Int) := by omega
        have hq1 : decide ((k : Int) ≤ 2 * (i : Int) + 2) = true := decide_eq_true (by omega)
        have hq2 : decide ((k : Int) < (n : Int)) = true := decide_eq_true (by omega)
        have hq3 : decide (k < n) = true := decide_eq_true g2
        clear hbest hbel hrow a0 a1 b0 b1 ht
        cases t with
        | false =>
          have HBN := Lib.hid (HBS.out.keep g1 (by rw [HKI.out, HKU.out]; exact ahead_no HT.out))
          go_upto_region 5 with (fail)
          refine wp_region_past (by kernel_rfl) (by kernel_rfl) ?_
          repeat (go_big_quiet_step ((go_at_call 218; (with_reducible exact HC.out _))))
          refine wpQuiet_nil ?_
          intro _ hw'
          obtain ⟨pq, hw''⟩ := hw'
          subst hw''
          have HBq := Lib.hid (bl_trans HBL.out pq.b)
          clear C0 C1 C2 C3 C4 s0
          generalize pq.x = Wc at *
          go_wp2
          go_roundw
          case rel => exact ⟨f, k + 1, rfl, by go_num, HBN.out, HBq.out⟩
          case measure => simp [intOf]; omega
        | true =>
          have HBN := Lib.hid (HBS.out.take g1 g2 (by rw [HKI.out, HKU.out]; exact ahead_yes HT.out))
          go_upto_region 5 with (fail)
          refine wp_region_past (by kernel_rfl) (by kernel_rfl) ?_
          repeat (go_big_quiet_step ((go_at_call 218; (with_reducible exact HC.out _))))
          refine wpQuiet_nil ?_
          intro _ hw'
          obtain ⟨pq, hw''⟩ := hw'
          subst hw''
          have HBq := Lib.hid (bl_trans HBL.out pq.b)
          clear C0 C1 C2 C3 C4 s0
          generalize pq.x = Wc at *
          go_wp2
          go_roundw
          case rel => exact ⟨k, k + 1, rfl, by go_num, HBN.out, HBq.out⟩
          case measure => simp [intOf]; omega
      · have HFU := Lib.hid (hbest.full hg)
        have HAT := Lib.hid hbest.at_
        have HSE := Lib.hid hbest.self
        have HROW := Lib.hid hrow
        have HUP := Lib.hid (HUD.out.thenB HBL.out)
        clear hbest hrow
        obtain ⟨b, hb⟩ : ∃ b, decide (k ≤ 2 * i + 2) = b := ⟨_, rfl⟩
        have hq1 : decide ((k : Int) ≤ 2 * (i : Int) + 2) = b := by rw [← hb]; congr 1; apply propext; omega
        have hq2 : b = true → decide ((k : Int) < (n : Int)) = false := fun e => by
          rw [← hb, decide_eq_true_iff] at e
          exact decide_eq_false (fun e2 => hg ⟨e, by omega⟩)
        have HEND := Lib.hid (show f = i → ∃ l', qbRow wy q g c l' ∧ HeapF l'.length (keyL l') ∧ (l'.map Prod.fst).Perm (l.map Prod.fst) ∧ Upd (· = g) w wy from fun e => ⟨l2, HROW.out, by
          subst e
          rw [HL2.out]
          exact dn_done HDN.out HFU.out, HPM.out, HUP.out⟩)
        clear hg hb
        by_cases hfi : f = i
        · have hE := Lib.hid (HEND.out hfi)
          subst hfi
          cases b with
          | false =>
            clear hq2
            go_wp2
            exact bodyPost_ret (v := .tuple #[]) (by simp [results, Tryz.results220, go_sem]) rfl ⟨rfl, hE.out⟩
          | true =>
            have hq3 := hq2 rfl
            have hq4 : decide (k < n) = false := by rw [← hq3]; congr 1; apply propext; omega
            clear hq2
            go_wp2
            exact bodyPost_ret (v := .tuple #[]) (by simp [results, Tryz.results220, go_sem]) rfl ⟨rfl, hE.out⟩
        · obtain ⟨c1, c2, c3⟩ : 2 * i + 1 ≤ f ∧ f < k ∧ f < n := HAT.out.resolve_left hfi
          have hfe : ((f : Int) == (i : Int)) = false := by rw [beq_eq_false_iff_ne]; omega
          have hfe2 : ¬ (f : Int) = (i : Int) := by omega
          have hil : (i : Int) < (n : Int) := by omega
          have hfl : (f : Int) < (n : Int) := by omega
          have hlen := HL2.out
          obtain ⟨a0, a1⟩ := HROW.out.cells (i := i) (by omega)
          obtain ⟨b0, b1⟩ := HROW.out.cells (i := f) (by omega)
          have HSW := Lib.hid (HROW.out.swap (i := i) (j := f) (by omega) (by omega))
          have HNX := Lib.hid (show ∃ l3 : List (Nat × Nat), l3 = swapL l2 i f ∧ l3.length = n ∧ DnF n (keyL l3) f ∧ (l3.map Prod.fst).Perm (l.map Prod.fst) from ⟨_, rfl, by rw [swapL_len]; exact hlen, by
            rw [key_swap (by omega) (by omega)]
            exact dn_step HDN.out (by omega) c3 (by omega) HSE.out HFU.out, ((swap_perm (by omega) (by omega)).map _).trans HPM.out⟩)
          have fz : ∀ j, wy.frozen? ⟨g, j, none⟩ = false := fun j => HROW.out.own.free j
          have f0 := fz (i * 2); have f1 := fz (i * 2 + 1); have f2 := fz (f * 2); have f3 := fz (f * 2 + 1)
          generalize l2.getD i (0, 0) = ei at *
          generalize l2.getD f (0, 0) = eu at *
          obtain ⟨l3, hl3, hl3n, hd3, hp3⟩ := HNX.out
          rw [← hl3] at HSW
          have HD3 := Lib.hid hd3; have HP3 := Lib.hid hp3; have HL3 := Lib.hid hl3n
          clear hl3 hl3n hd3 hp3 HNX fz hlen HAT HEND
          cases b with
          | false =>
            clear hq2
            go_upto_region 8 with (fail)
            go_region
            go_wp2
            go_roundw
            case rel => exact ⟨f, l3, rfl, by omega, .inr c3, HL3.out, HSW.out.stays rfl rfl, HD3.out, HP3.out, ((((HUP.out.set _ _ _ (.inl rfl)).set _ _ _ (.inl rfl)).set _ _ _ (.inl rfl)).set _ _ _ (.inl rfl)).drew⟩
            case measure => simp [intOf]; omega
          | true =>
            have hq3 := hq2 rfl
            have hq4 : decide (k < n) = false := by rw [← hq3]; congr 1; apply propext; omega
            clear hq2
            go_upto_region 8 with (fail)
            go_region
            go_wp2
            go_roundw
            case rel => exact ⟨f, l3, rfl, by omega, .inr c3, HL3.out, HSW.out.stays rfl rfl, HD3.out, HP3.out, ((((HUP.out.set _ _ _ (.inl rfl)).set _ _ _ (.inl rfl)).set _ _ _ (.inl rfl)).set _ _ _ (.inl rfl)).drew⟩
            case measure => simp [intOf]; omega
end Go.Proofs.YtbhfbdcmamodcaaGreatDoor
namespace Go.Proofs.YtbhfbdcmamodcaaGreatDoor
open Go.RowKit LgMath
section
variable {w w' : World} {q g c : Nat} {l : List (Nat × Nat)}
theorem qbAt.row (h : qbAt w q (.slice (some ⟨g, 0, none⟩) l.length c) l) : qbRow w q g c l := ⟨h.box, h.own, fun e => h.ne (by simp [Value.ownBlock, e])⟩
theorem qbRow.put0 (h : qbRow w q g c l) (h0 : 0 < l.length) (x : Nat × Nat) : qbRow ((w.setCell ⟨g, 0, none⟩ (.int .i64 (x.1 : Nat))).setCell ⟨g, 1, none⟩ (.int .u64 (x.2 : Nat))) q g c (l.set 0 x) := by
  have := h.put h0 x
  rw [Nat.zero_mul, Nat.zero_add] at this
  exact this
theorem qbRow.putZ (h : qbRow w q g c l) {m : Nat} (hm : m < l.length) : qbRow ((w.setCell ⟨g, m * 2, none⟩ (.int .i64 0)).setCell ⟨g, m * 2 + 1, none⟩ (.int .u64 0)) q g c (l.set m (0, 0)) := h.put hm (0, 0)
theorem qbRow.cut (h : qbRow w q g c l) {m : Nat} (hm : m ≤ l.length) : qbRow (w.setCell ⟨q, 0, none⟩ (.slice (some ⟨g, 0, none⟩) m c)) q g c (l.take m) := by
  obtain ⟨⟨k, hk, a⟩, b, d⟩ := h
  have hl : (l.take m).length = m := by rw [List.length_take]; omega
  refine ⟨⟨k, hk, ?_⟩, ?_, d⟩
  · rw [hl]; exact heap_setCell_same w q 0 _ _ _ a
  · rw [hl]
    have h2 := b.stays (x := w.setCell ⟨q, 0, none⟩ (.slice (some ⟨g, 0, none⟩) m c)) (fun j e => by simp [Value.ownBlock] at e; subst e; exact heap_setCell_other _ _ _ _ d)
    obtain ⟨e1, e2⟩ := h2
    rcases e2 with ⟨e2, _⟩ | ⟨g', cap', cur, e2, e3, e4, e5, e6, e7, e8⟩
    · simp at e2
    · cases e2
      unfold OwnX
      rw [hl]
      refine ⟨by rw [flat_length entW, hl], .inr ⟨g, c, cur, rfl, e3, e4, by omega, e6, e7, ?_⟩⟩
      have e9 : (l.take m).flatMap entV = (l.flatMap entV).take (m * 2) := by
        have e10 : l.flatMap entV = (l.take m).flatMap entV ++ (l.drop m).flatMap entV := by rw [← List.flatMap_append, List.take_append_drop]
        conv => rhs; rw [e10, List.take_append_of_le_length (by rw [flat_length entW, hl]; exact Nat.le_refl _), List.take_of_length_le (by rw [flat_length entW, hl]; exact Nat.le_refl _)]
      rw [e9, ← e8, List.take_take, Nat.min_eq_left (by omega)]
end
def qbGot (w : World) (q : Nat) (v : Value) (l : List (Nat × Nat)) (w' : World) : Prop :=
  ∃ v' l', qbAt w' q v' l' ∧ (l.map Prod.fst).Perm (keyL l 0 :: l'.map Prod.fst) ∧ Upd (fun j => j = q ∨ v.ownBlock = some j) w w' ∧ v'.ownBlock = v.ownBlock
set_option maxHeartbeats 4000000 in
set_option maxRecDepth 100000 in
theorem qbPop {w : World} {q : Nat} {v : Value} {l : List (Nat × Nat)} (h : qbAt w q v l) (h0 : 0 < l.length) (hl : l.length ≤ 100000) :
    Calls Tryz.prog 179 #[.pointer (some ⟨q, 0, none⟩)] w fun e w' => e = .returned (.tuple #[.int .i64 (keyL l 0 : Nat), .bool true]) ∧ qbGot w q v l w' := by
  have HP := Lib.hid (qbPeek h h0)
  obtain ⟨g, c, rfl, _, hgl, hlc, hcm⟩ := h.own.form h0
  have hR := h.row
  obtain ⟨m, hm⟩ : ∃ m, l.length - 1 = m := ⟨_, rfl⟩
  obtain ⟨n, hn⟩ : ∃ n, l.length = n := ⟨_, rfl⟩
  have hmn : m + 1 = n := by omega
  have s0 := hR.at0
  obtain ⟨a0, a1⟩ := hR.cells (i := m) (by omega)
  obtain ⟨b0, b1⟩ := hR.cells (i := 0) h0
  rw [Nat.zero_mul] at b0 b1
  rw [Nat.zero_add] at b1
  have fz : ∀ j, w.frozen? ⟨g, j, none⟩ = false := fun j => hR.own.free j
  have HPR := Lib.hid (popL_perm h0)
  have HDN := Lib.hid (popL_dn h.heap)
  have HRW := Lib.hid (show ∀ (e : Nat × Nat), l.getD m (0, 0) = e → qbRow ((w.setCell ⟨g, 0, none⟩ (.int .i64 (e.1 : Nat))).setCell ⟨g, 1, none⟩ (.int .u64 (e.2 : Nat))) q g c (l.set 0 e) ∧ Upd (fun j => j = q ∨ (Value.slice (some ⟨g, 0, none⟩) n c).ownBlock = some j) w ((w.setCell ⟨g, 0, none⟩ (.int .i64 (e.1 : Nat))).setCell ⟨g, 1, none⟩ (.int .u64 (e.2 : Nat))) from fun e he => ⟨hR.put0 h0 e, ((Upd.refl _ w).set _ _ _ (.inl (.inr rfl))).set _ _ _ (.inl (.inr rfl))⟩)
  obtain ⟨lm, hlm⟩ : ∃ e, l.getD m (0, 0) = e := ⟨_, rfl⟩
  have HRW1 := Lib.hid (HRW.out lm hlm)
  have HPL := Lib.hid (show popL l = (l.set 0 lm).take m from by unfold popL; rw [hm, hlm])
  have HNE := Lib.hid hR.ne
  rw [hlm] at a0 a1
  rw [hn] at s0 hlc ⊢
  have HN := Lib.hid hn
  have f0 := fz 0; have f1 := fz 1
  have hw1 : IntKind.i64.wrap ((n : Int) - 1) = (m : Int) := by rw [IntWalk.i64_in _ (by omega)]; omega
  have hw2 : (n : Int) - 1 = (m : Int) := by omega
  have hw3 : wrap64 (m : Int) = (m : Int) := IntWalk.wrap64_in _ (by omega)
  have hml : (m : Int) < (n : Int) := by omega
  have hn0 : (0 : Int) < (n : Int) := by omega
  have hmc : (m : Int) ≤ (c : Int) := by omega
  have hx : keyL l 0 = (l.getD 0 (0, 0)).1 := rfl
  obtain ⟨x, hx'⟩ : ∃ x, keyL l 0 = x := ⟨_, rfl⟩
  rw [hx'] at HPR HP hx ⊢
  rw [← hx] at b0
  clear hx
  have hx' := Lib.hid hx'
  clear h hR hm hlm HRW fz h0 hn
  go_enter Tryz.func179, Tryz.ntmps179
  go_wp2_with fail
  (with_reducible refine HP.out.mono ?_)
  rintro e w1 ⟨rfl, rfl⟩
  go_upto_region 5 with (fail)
  go_region
  obtain ⟨hr, hu⟩ := HRW1.out
  obtain ⟨X1, hX1⟩ : ∃ X1, ((w1.setCell ⟨g, 0, none⟩ (.int .i64 (lm.1 : Nat))).setCell ⟨g, 1, none⟩ (.int .u64 (lm.2 : Nat))).drew = X1 := ⟨_, rfl⟩
  have hr1 : qbRow X1 q g c (l.set 0 lm) := by rw [← hX1]; exact hr.stays rfl rfl
  have hu1 : Upd (fun j => j = q ∨ (Value.slice (some ⟨g, 0, none⟩) n c).ownBlock = some j) w1 X1 := by rw [← hX1]; exact hu.drew
  rw [hX1]
  clear hr hu hX1 HRW1 s0 a0 a1 b0 b1 f0 f1
  have hl1 : (l.set 0 lm).length = n := by rw [List.length_set]; exact HN.out
  have s1 := hr1.at0
  rw [hl1] at s1
  obtain ⟨a0, a1⟩ := hr1.cells (i := m) (by omega)
  have fz : ∀ j, X1.frozen? ⟨g, j, none⟩ = false := fun j => hr1.own.free j
  have f0 := fz (m * 2); have f1 := fz (m * 2 + 1)
  have hr2 := hr1.putZ (m := m) (by omega)
  have hu2 := (hu1.set g (m * 2) (.int .i64 0) (.inl (.inr rfl))).set g (m * 2 + 1) (.int .u64 0) (.inl (.inr rfl))
  obtain ⟨X2, hX2⟩ : ∃ X2, (X1.setCell ⟨g, m * 2, none⟩ (.int .i64 0)).setCell ⟨g, m * 2 + 1, none⟩ (.int .u64 0) = X2 := ⟨_, rfl⟩
  rw [hX2] at hr2 hu2
  have HX2 := Lib.hid hX2; have HR2 := Lib.hid hr2; have HU2 := Lib.hid hu2; have HL1 := Lib.hid hl1
  clear hr1 hu1 hr2 hu2 hX2 fz
  go_upto_region 7 with (fail)
  rw [HX2.out]
  have s2 := HR2.out.at0
  rw [List.length_set, HL1.out] at s2
  obtain ⟨k2, hk2, hb2⟩ := HR2.out.box
  have fq : X2.frozen? ⟨q, 0, none⟩ = false := frozen_of_row _ _ _ _ _ hb2
  have hr3 := HR2.out.cut (m := m) (by rw [List.length_set, HL1.out]; omega)
  have hu3 := HU2.out.set q 0 (.slice (some ⟨g, 0, none⟩) m c) (.inl (.inl rfl))
  have e3 : ((l.set 0 lm).set m (0, 0)).take m = popL l := by rw [List.take_set_of_le (Nat.le_refl _), HPL.out]
  rw [e3] at hr3
  obtain ⟨X3, hX3⟩ : ∃ X3, X2.setCell ⟨q, 0, none⟩ (.slice (some ⟨g, 0, none⟩) m c) = X3 := ⟨_, rfl⟩
  rw [hX3] at hr3 hu3
  have HS := Lib.hid (qbSink hr3 HDN.out (by have := HN.out; rw [HPL.out, List.length_take, HL1.out]; omega))
  have HU3 := Lib.hid hu3; have HX3 := Lib.hid hX3
  clear hr3 hu3 hX3 e3 hk2 hb2 s1 a0 a1 f0 f1
  go_upto_region 8 with (fail)
  rw [HX3.out]
  go_wp2_with fail
  (with_reducible refine HS.out.mono ?_)
  rintro e w4 ⟨rfl, l', hr4, hh4, hp4, hu4⟩
  have HEND := Lib.hid (show ∃ v' l', qbAt w4 q v' l' ∧ (l.map Prod.fst).Perm (x :: l'.map Prod.fst) ∧ Upd (fun j => j = q ∨ (Value.slice (some ⟨g, 0, none⟩) n c).ownBlock = some j) w1 w4 ∧ v'.ownBlock = (Value.slice (some ⟨g, 0, none⟩) n c).ownBlock from ⟨_, l', hr4.at_ hh4, HPR.out.trans (hp4.symm.cons _), HU3.out.trans hu4 (fun j e => .inl (.inr (by subst e; rfl))), rfl⟩)
  clear hr4 hh4 hp4 hu4
  go_wp2
  exact bodyPost_ret (v := .tuple #[.int .i64 (x : Nat), .bool true]) (by simp [results, Tryz.results179, go_sem]) rfl ⟨rfl, by
    obtain ⟨v', l', k1, k2, k3, k4⟩ := HEND.out
    exact ⟨v', l', k1, by rw [hx'.out]; exact k2, k3, k4⟩⟩
set_option maxRecDepth 100000 in
theorem qbNew (w : World) : Calls Tryz.prog 114 #[.slice none 0 0] w fun e w' => ∃ q, e = .returned (.pointer (some ⟨q, 0, none⟩)) ∧ qbAt w' q (.slice none 0 0) [] ∧ w.heap.size ≤ q ∧ Below w.heap.size w w' := by
  obtain ⟨W1, hW1⟩ : ∃ W1, w.alloc (.cells #[.slice none 0 0, .int .u64 0] 279) = W1 := ⟨_, rfl⟩
  have hb1 : Below w.heap.size w W1 := by rw [← hW1]; exact bl_alloc (Below.refl _ w) _
  have hs1 : W1.heap[w.heap.size]? = some (.cells #[.slice none 0 0, .int .u64 ((0 : Nat) : Int)] 279 (0, 0)) := by rw [← hW1]; exact heap_alloc_new _ _
  have HA := Lib.hid (show qbAt W1 w.heap.size (.slice none 0 0) [] from ⟨⟨0, by decide, hs1⟩, OwnX.nil _ _ _ _ _, by simp [Value.ownBlock], fun j h1 h2 => by simp at h2⟩)
  have HW := Lib.hid hW1; have HB := Lib.hid hb1
  clear hW1 hb1 hs1
  go_enter Tryz.func114, Tryz.ntmps114
  go_upto_region 2 with (fail)
  rw [HW.out]
  go_wp2_with fail
  go_loopw [10] (fun iv wr => iv = .int .i64 0 ∧ wr = W1) (fun _ _ => 0)
  case atStart => exact ⟨rfl, rfl⟩
  case round =>
    obtain ⟨rfl, rfl⟩ := hrel
    go_wp2
    go_ret
    exact ⟨_, rfl, HA.out, Nat.le_refl _, HB.out⟩
end Go.Proofs.YtbhfbdcmamodcaaGreatDoor
