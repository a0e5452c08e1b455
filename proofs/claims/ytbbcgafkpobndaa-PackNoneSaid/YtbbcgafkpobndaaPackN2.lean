/- Walk of the law PackNone. -/
import Derived.Test.YtbbcgafkpobndaaPackN
set_option linter.unusedVariables false
set_option linter.unusedSimpArgs false
namespace Go.Proofs.Ytbbcgafkpobndaa
open Go.RowKit PackMath

theorem zero_rd (w : World) : IsRd TR (w.alloc (.cells #[.string ⟨#[]⟩, .int .i64 0, .int .i64 0] 44)) w.heap.size ⟨#[]⟩ 0 0 :=
  ⟨heap_alloc_new _ _, Nat.zero_le _, by decide⟩

theorem two_zero {w wt : World} (hb : Below (w.alloc (.cells #[.string ⟨#[]⟩, .int .i64 0, .int .i64 0] 44)).heap.size (w.alloc (.cells #[.string ⟨#[]⟩, .int .i64 0, .int .i64 0] 44)) wt)
    (hr : IsRd TX wt (w.alloc (.cells #[.string ⟨#[]⟩, .int .i64 0, .int .i64 0] 44)).heap.size ⟨#[]⟩ 0 0) : Two w.heap.size wt w.heap.size (w.heap.size + 1) ⟨#[]⟩ 0 0 := by
  have h := two_new (zero_rd w) hb hr (Nat.le_refl _)
  rwa [show (w.alloc (.cells #[.string ⟨#[]⟩, .int .i64 0, .int .i64 0] 44)).heap.size = w.heap.size + 1 by simp] at h
set_option maxHeartbeats 1600000 in
set_option maxRecDepth 100000 in
theorem packNone_any (n : Nat) (hn : n < 18446744073709551616) (w : World) :
    Calls Try.prog 5 #[.int .u64 n] w fun e w' => e = .returned (.bool true) ∧ Below w.heap.size w w' := by
  go_enter Try.func5, Try.ntmps5
  go_wp2_with (go_at_call 9; refine (lays_any w).mono ?_; rintro e w1 ⟨rfl, hb1⟩; have HB1 := Lib.hid hb1; clear hb1)
  go_loopw [19] (fun i wr => ∃ k : Nat, k ≤ 7 ∧ i = .int .u8 k ∧ Below w.heap.size w wr) (fun i _ => 7 - (intOf i).toNat)
  case atStart => exact ⟨0, Nat.zero_le _, rfl, HB1.out⟩
  case round =>
    obtain ⟨k, hk, rfl, hbb⟩ := hrel
    have HB := Lib.hid hbb
    clear hbb
    by_cases hlt : k < 7
    · go_wp2_with fail
      go_wp2_with (go_at_call 18; refine (rx_new _ ⟨#[]⟩ (by decide)).mono ?_; rintro e wt ⟨rfl, hb3, hr3⟩; have HB3 := Lib.hid (bl_trans (bl_alloc (Below.refl _ wr) _) hb3); have HT := Lib.hid (two_zero hb3 hr3); clear hb3 hr3)
      go_wp2_with (go_at_call 19; refine (read_at _ _ _ _ _ _ _ _ _ k n rfl rfl _ (by omega) hn HT.out).mono ?_; rintro r wu ⟨rfl, a', e', ht, hbb⟩; have H3 := Lib.hid ht; have HBu := Lib.hid hbb; clear ht hbb)
      go_wp2_with (go_at_call 20; refine (rEnd _ _ a' e' _ H3.out.r).mono ?_; rintro r wv ⟨rfl, hh⟩; have H4 := Lib.hid hh; clear hh)
      go_wp2_with (go_at_call 21; refine (xEnd _ _ a' e' _ (H3.out.fst H4.out.1)).mono ?_; rintro r ww ⟨rfl, hh⟩; have H5 := Lib.hid (H3.out.both H4.out.1 H4.out.2 hh.1 hh.2); clear hh)
      go_roundw
      case rel => exact ⟨k + 1, by omega, by go_num, bl_trans HB.out (HB3.out.trans (HBu.out.trans H5.out.2))⟩
      case measure => simp [intOf]; omega
    · go_wp2_with (go_at_call 22; refine (nU8 wr).mono ?_; rintro r wa ⟨rfl, hb⟩; have HBa := Lib.hid hb; clear hb)
      go_wp2_with (first
        | (go_at_call 16; refine (nShort wa).mono ?_; rintro r wb ⟨rfl, rfl⟩)
        | (go_at_call 23; refine (nRaw wa _).mono ?_; rintro r wb ⟨rfl, rfl⟩)
        | (go_at_call 24; refine (nText wa _).mono ?_; rintro r wb ⟨rfl, rfl⟩))
      go_wp2_with (go_at_call 25; refine (nU64 wa).mono ?_; rintro r wb ⟨rfl, hb⟩; have HBb := Lib.hid hb; clear hb)
      go_wp2_with (first
        | (go_at_call 26; refine (nErr wb).mono ?_; rintro r wc ⟨rfl, rfl⟩)
        | (go_at_call 20; refine (nEnd wb).mono ?_; rintro r wc ⟨rfl, rfl⟩)
        | (go_at_call 17; refine (nAt wb).mono ?_; rintro r wc ⟨rfl, rfl⟩)
        | (go_at_call 27; refine (nLeft wb).mono ?_; rintro r wc ⟨rfl, rfl⟩))
      go_ret
      exact ⟨rfl, bl_trans HB.out (bl_trans HBa.out HBb.out)⟩
end Go.Proofs.Ytbbcgafkpobndaa
