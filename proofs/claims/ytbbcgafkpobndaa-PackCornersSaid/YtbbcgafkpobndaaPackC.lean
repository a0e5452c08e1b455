/- Walk of the law PackCorners. -/
import Derived.Test.YtbbcgafkpobndaaPackR
namespace Go.Proofs.Ytbbcgafkpobndaa
open Go.RowKit PackMath

set_option maxHeartbeats 3200000 in
set_option maxRecDepth 100000 in
theorem packCorners_any (s : ByteArray) (n : Int) (w : World) (hs : s.size ≤ 140737488355328) (hn0 : -9223372036854775808 ≤ n) (hn1 : n < 9223372036854775808) :
    Calls Try.prog 7 #[.string s, .int .i64 n] w fun e w' => e = .returned (.bool true) ∧ Below w.heap.size w w' := by
  obtain ⟨M, hM⟩ : ∃ M : Nat, M = min s.size 40 := ⟨_, rfl⟩
  have hM1 : (if (40 : Int) < (s.size : Int) then (40 : Int) else (s.size : Int)) = (M : Int) := by split <;> omega
  have hMs : M ≤ s.size := by omega
  have hM40 : M ≤ 40 := by omega
  clear hM
  go_enter Try.func7, Try.ntmps7
  go_wp2_with (go_at_call 9; refine (lays_any w).mono ?_; rintro e w1 ⟨rfl, hb1⟩; have HB1 := Lib.hid hb1; clear hb1)
  clear hM1
  go_loopw [17] (fun i wr => ∃ k1 : Nat, k1 ≤ M + 1 ∧ i = .int .i64 k1 ∧ Below w.heap.size w wr) (fun i _ => M + 1 - (intOf i).toNat)
  case atStart => exact ⟨0, Nat.zero_le _, rfl, HB1.out⟩
  case round =>
    obtain ⟨k1, hk1, rfl, hbb⟩ := hrel
    have HBo := Lib.hid hbb
    clear hbb
    by_cases hlt : k1 < M + 1
    · have hks : k1 ≤ s.size := by omega
      have hss : (s.extract 0 k1).size < 281474976710656 := by rw [ByteArray.size_extract]; omega
      have hd1 : decide ((k1 : Int) < (M : Int) + 1) = true := by simp; omega
      obtain ⟨wo, rfl⟩ : ∃ wo : World, wo = wr := ⟨_, rfl⟩
      go_wp2
      go_loopw [20] (fun i wr => ∃ k2 : Nat, k2 ≤ 7 ∧ i = .int .u8 k2 ∧ Below wo.heap.size wo wr) (fun i _ => 7 - (intOf i).toNat)
      case atStart => exact ⟨0, Nat.zero_le _, rfl, Below.refl _ _⟩
      case round =>
        obtain ⟨k2, hk2, rfl, hbb⟩ := hrel
        have HBp := Lib.hid hbb
        clear hbb
        by_cases hlt2 : k2 < 7
        · have hd2 : decide ((k2 : Int) < 7) = true := by simp; omega
          obtain ⟨wp, rfl⟩ : ∃ wp : World, wp = wr := ⟨_, rfl⟩
          go_wp2
          generalize hwq : wp.alloc (Obj.cells #[Value.int IntKind.i64 n, Value.int IntKind.i64 k1] 3) = wq
          have HC0 := Lib.hid (show wq.cell? ⟨wp.heap.size, 0, none⟩ = some (.int .i64 n) by rw [← hwq, World.cell?_alloc_mark]; rfl)
          have HC1 := Lib.hid (show wq.cell? ⟨wp.heap.size, 1, none⟩ = some (.int .i64 k1) by rw [← hwq, World.cell?_alloc_mark]; rfl)
          have HBq := Lib.hid (show Below wp.heap.size wp wq by rw [← hwq]; exact bl_alloc (Below.refl _ _) _)
          clear hwq
          go_loopw [27] (fun i wr => ∃ k3 : Nat, k3 ≤ 2 ∧ i = .int .i64 k3 ∧ Below wq.heap.size wq wr) (fun i _ => 2 - (intOf i).toNat)
          case atStart => exact ⟨0, Nat.zero_le _, rfl, Below.refl _ _⟩
          case round =>
            obtain ⟨k3, hk3, rfl, hbb⟩ := hrel
            have HBr := Lib.hid hbb
            clear hbb
            by_cases hlt3 : k3 < 2
            · obtain ⟨m, hm0, hm1, hcell⟩ : ∃ m : Int, -9223372036854775808 ≤ m ∧ m < 9223372036854775808 ∧ wr.cell? ⟨wp.heap.size, k3, none⟩ = some (.int .i64 m) := by
                rcases (show k3 = 0 ∨ k3 = 1 by omega) with rfl | rfl
                · exact ⟨n, hn0, hn1, bl_cell HBr.out HC0.out⟩
                · exact ⟨k1, by omega, by omega, bl_cell HBr.out HC1.out⟩
              obtain ⟨N, hN⟩ : ∃ N : Nat, IntKind.u64.wrap m = (N : Int) := ⟨(IntKind.u64.wrap m).toNat, by rw [IntKind.wrap_u64]; omega⟩
              have hNl : N < 18446744073709551616 := by rw [IntKind.wrap_u64] at hN; omega
              have HN := Lib.hid hN
              clear hN
              go_wp2_with fail
              go_region_with (first
                | (go_at_call 18; refine (rx_new _ (s.extract 0 k1) hss).mono ?_; rintro e wt ⟨rfl, hb3, hr3⟩; have HB3 := Lib.hid (hB2.out.trans (hb3.mono hB2.out.size)); have HT := Lib.hid (two_new (B := wr.heap.size) hR2.out hb3 hr3 (Nat.le_refl _)); clear hb3 hr3)
                | (go_at_call 15; refine (rd_new _ (s.extract 0 k1) hss).mono ?_; rintro e ws ⟨rfl, hb2, hr2⟩; have hB2 := Lib.hid hb2; have hR2 := Lib.hid hr2; clear hb2 hr2))
              all_goals
                have HB3' := Lib.hid (show Below wr.heap.size wr wt from (Below.drew (Below.refl _ _)).trans HB3.out)
                go_wp2_with (go_at_call 19; refine (read_at _ _ _ _ _ _ _ _ _ k2 N rfl HN.out _ (by omega) hNl HT.out).mono ?_; rintro r wu ⟨rfl, a', e', ht, hbb⟩; have H3 := Lib.hid ht; have HBu := Lib.hid hbb; clear ht hbb)
                go_wp2_with (go_at_call 20; refine (rEnd _ _ a' e' _ H3.out.r).mono ?_; rintro r wv ⟨rfl, hh⟩; have H4 := Lib.hid hh; clear hh)
                go_wp2_with (go_at_call 21; refine (xEnd _ _ a' e' _ (H3.out.fst H4.out.1)).mono ?_; rintro r ww ⟨rfl, hh⟩; have H5 := Lib.hid (H3.out.both H4.out.1 H4.out.2 hh.1 hh.2); clear hh)
                go_roundw
                case rel => exact ⟨k3 + 1, by omega, by go_num, bl_trans HBr.out (HB3'.out.trans (HBu.out.trans H5.out.2))⟩
                case measure => simp [intOf]; omega
            · go_wp2
              go_roundw
              case rel => exact ⟨k2 + 1, by omega, by go_num, bl_trans HBp.out (bl_trans HBq.out HBr.out)⟩
              case measure => simp [intOf]; omega
        · go_wp2
          go_roundw
          case rel => exact ⟨k1 + 1, by omega, by go_num, bl_trans HBo.out HBp.out⟩
          case measure => simp [intOf]; omega
    · go_wp2
      go_ret
      exact ⟨rfl, HBo.out⟩
end Go.Proofs.Ytbbcgafkpobndaa
