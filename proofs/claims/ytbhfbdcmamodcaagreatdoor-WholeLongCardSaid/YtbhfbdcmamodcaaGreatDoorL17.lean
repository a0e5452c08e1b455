/- The whole: the next number of a chain. -/
import Derived.Test.YtbhfbdcmamodcaaGreatDoorL05
import Derived.Maps.OwnOps
set_option linter.unusedVariables false
set_option linter.unusedSimpArgs false
namespace Go.Proofs.YtbhfbdcmamodcaaGreatDoor
open Go.RowKit Go.Maps
def nextN (l : List Link) : Nat := l.foldl (fun n x => max n (x.1 + 1)) 0
theorem nextN_take {l : List Link} {k : Nat} (h : k < l.length) : nextN (l.take (k + 1)) = max (nextN (l.take k)) (l[k].1 + 1) := by
  unfold nextN
  rw [List.take_succ_eq_append_getElem h, List.foldl_append]
  rfl
theorem fold_next_le (l : List Link) : ∀ n, n ≤ l.foldl (fun n x => max n (x.1 + 1)) n := by
  induction l with
  | nil => intro n; exact Nat.le_refl _
  | cons x r ih => intro n; exact Nat.le_trans (Nat.le_max_left _ _) (ih _)
theorem nextN_le {l : List Link} {m : Nat} (h : ∀ x ∈ l, x.1 < m) : nextN l ≤ m := by
  have : ∀ (l : List Link) n, n ≤ m → (∀ x ∈ l, x.1 < m) → l.foldl (fun n x => max n (x.1 + 1)) n ≤ m := by
    intro l
    induction l with
    | nil => intro n hn _; exact hn
    | cons y r ih => intro n hn h; exact ih _ (Nat.max_le.2 ⟨hn, h y (by simp)⟩) fun x hx => h x (by simp [hx])
  exact this l 0 (Nat.zero_le _) h
theorem zeroInt (w : World) : (zeroValue 3).run Tryz.prog w = .ok (.int .i64 0) w := by kernel_rfl
theorem wf_wrapped (n : Int) : (Lit.int .i64 (wrap64 n)).wf = true := by unfold wrap64; exact WalkArith.wf_i64 (by omega)
set_option maxHeartbeats 4000000 in
set_option maxRecDepth 100000 in
theorem lcNext (l : List Link) (hl : l.length ≤ 1000) (hn : ∀ x ∈ l, x.1 < 1000000) (a : Option Addr) (c : Nat) (w : World) (h : CellsAt w a (l.flatMap linkV)) :
    Calls Tryz.prog 88 #[.slice a l.length c] w fun e w' => e = .returned (.int .i64 (nextN l : Nat)) ∧ Below w.heap.size w w' := by
  have hmm := @run_makeMap Tryz.prog
  have HA := Lib.hid h; have HN := Lib.hid hn
  have hle := nextN_le hn
  have HO0 := Lib.hid (World.ownsMap_made w Tryz.prog 3 (plainElem (H := Unit) Tryz.prog 3))
  clear h hn
  go_enter Tryz.func88, Tryz.ntmps88
  go_wp2
  go_loopw [4, 10] (fun nv iv wr => ∃ (k : Nat) (D : DataW Unit), k ≤ l.length ∧ iv = .int .i64 k ∧ nv = .int .i64 (nextN (l.take k) : Nat) ∧ wr.ownsMap Tryz.prog 3 (plainElem Tryz.prog 3) w.heap.size k D ∧ Below w.heap.size w wr) (fun _ iv _ => l.length - (intOf iv).toNat)
  case atStart => exact ⟨0, _, Nat.zero_le _, rfl, rfl, HO0.out, bl_alloc (Below.refl _ w) _⟩
  case round =>
    obtain ⟨k, D, hk, rfl, rfl, hown, hbel⟩ := hrel
    have HO := Lib.hid hown; have HB := Lib.hid hbel
    clear hown hbel
    by_cases hlt : k < l.length
    · obtain ⟨b, off, rfl, _, p1, p2, p3⟩ := link_cells (HA.out.below HB.out) hlt
      have hx1 := HN.out _ (List.getElem_mem hlt)
      have hs := nextN_take hlt
      obtain ⟨x, hx⟩ : ∃ x, l[k] = x := ⟨_, rfl⟩
      rw [hx] at p1 p2 p3 hs hx1
      obtain ⟨m, y, z⟩ := x
      simp only at p1 p2 p3 hs hx1
      have hg1 : nextN (l.take k) ≤ 1000000 := nextN_le fun x hx => HN.out x (List.mem_of_mem_take hx)
      obtain ⟨g, hg⟩ : ∃ g, nextN (l.take k) = g := ⟨_, rfl⟩
      rw [hg] at hs hg1
      rw [hg]
      obtain ⟨t, ht⟩ : ∃ t, max g (m + 1) = t := ⟨_, rfl⟩
      rw [ht] at hs
      have hmz : max (g : Int) ((m : Int) + 1) = (t : Int) := by omega
      have hmz2 : (if (g : Int) < (m : Int) + 1 then (m : Int) + 1 else (g : Int)) = (t : Int) := by split <;> omega
      have HS := Lib.hid hs
      have HNum := Lib.hid (fun W => lcNumbered m (by omega) W)
      have HKEY := Lib.hid (keyOf_int_mk (k := 3) (P := Tryz.prog) Tryz.underlying3 (a := (m : Int)) (by exact WalkArith.wf_i64 (by omega)))
      obtain ⟨W1, hW1⟩ : ∃ W1, wr.alloc (.cells #[.int .i64 (m : Nat), .int .i64 (y : Nat), .int .u32 (z : Nat)] 149) = W1 := ⟨_, rfl⟩
      have q1 : W1.cell? ⟨wr.heap.size, 0, none⟩ = some (.int .i64 (m : Nat)) := by rw [← hW1, World.cell?_alloc_new]; rfl
      have HO1 := Lib.hid (show W1.ownsMap Tryz.prog 3 (plainElem Tryz.prog 3) w.heap.size k D by rw [← hW1]; exact HO.out.alloc _)
      have HB1 := Lib.hid (show Below w.heap.size w W1 by rw [← hW1]; exact bl_alloc HB.out _)
      have HQ := Lib.hid q1
      have hne : w.heap.size < wr.heap.size := HO.out.lt
      have HW1 := Lib.hid hW1
      clear hx hg ht hW1 hs
      go_wp2_with fail
      rw [HW1.out]
      go_wp2_with fail
      (with_reducible refine (HNum.out W1).mono ?_)
      rintro e w2 ⟨rfl, rfl⟩
      go_wp2_with (first | (at_lookup; refine wpList_lookup_own_int _ rfl _ _ 204 rfl 3 3 .i64 (int_keyed Tryz.underlying3) Tryz.underlying204 Tryz.underlying3 (zeroInt _) w.heap.size k D rfl HO1.out _ _ rfl HKEY.out ?_; intro cc hat hwc; clear hat; have HWC := Lib.hid hwc; clear hwc) | (at_mapUpdate; refine wpList_mapUpdate_own _ rfl _ _ _ 204 rfl 3 3 (int_keyed Tryz.underlying3) Tryz.underlying204 (plainElem Tryz.prog 3) w.heap.size k D rfl HO1.out (by unfold maxLen; omega) _ _ _ rfl rfl HKEY.out _ [] (plainElem_int Tryz.underlying3 (wf_wrapped _)) ?_; intro w2 hown1 hgrow1; have c2 : w2.cell? ⟨wr.heap.size, 0, none⟩ = some (.int .i64 (m : Nat)) := keep_grown hgrow1 HQ.out (by intro e; have := Option.some.inj e; omega); have HO2 := Lib.hid hown1; have HB2 := Lib.hid (HB1.out.grown hgrow1 HB1.out.size (by intro i e; cases e; exact Nat.le_refl _)); clear hown1 hgrow1))
      go_roundw
      case rel => exact ⟨k + 1, _, by omega, by go_num, by rw [HS.out], HO2.out, HB2.out⟩
      case measure => simp [intOf]; omega
    · have htk : l.take k = l := List.take_of_length_le (by omega)
      rw [htk]
      clear htk
      have HNum := Lib.hid (fun W => lcNumbered (nextN l) (by omega) W)
      obtain ⟨g, hg⟩ : ∃ g, nextN l = g := ⟨_, rfl⟩
      rw [hg] at HNum
      have HG := Lib.hid hg
      rw [hg]
      clear hg
      go_wp2_with fail
      (with_reducible refine (HNum.out wr).mono ?_)
      rintro e w2 ⟨rfl, rfl⟩
      go_wp2
      go_ret
      exact ⟨by rw [HG.out]; rfl, HB.out⟩
end Go.Proofs.YtbhfbdcmamodcaaGreatDoor
