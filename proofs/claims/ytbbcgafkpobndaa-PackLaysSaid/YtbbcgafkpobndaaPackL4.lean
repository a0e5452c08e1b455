/- Walks of layer 2: one laying into the nil writer ('lay'), kind by kind. -/
import Derived.Test.YtbbcgafkpobndaaPackL2
set_option linter.unusedVariables false
set_option linter.unusedSimpArgs false
namespace Go.Proofs.Ytbbcgafkpobndaa
open Go.RowKit PackMath

section
variable (w : World) (k n : Nat) (o : ByteArray)
/-- What a laying into the nil writer leaves. -/
def LayNil (l : List UInt8) (w : World) (r : Ending) (w' : World) : Prop := ∃ S, r = .returned (.string S) ∧ S.data.toList = l ∧ Below w.heap.size w w'
set_option maxHeartbeats 1000000 in
set_option maxRecDepth 100000 in
theorem layN_k0 (hk : k < 256) (hj : k % 7 = 0) (hn : n < 18446744073709551616) (ho : o.size ≤ 140737488355328) :
    Calls Try.prog 11 #[.pointer none, .agg #[.int .u8 k, .int .u64 n, .string o]] w (LayNil (layB k n o) w) := by
  have hmod : (k : Int) % 7 = 0 := by omega
  have hk2 : (k : Int) < 256 := by omega
  have HLB := Lib.hid (show layB k n o = be n 1 by unfold layB; rw [hj]; first | done | rfl)
  have HBX := Lib.hid (bl_alloc (Below.refl _ w) (.cells #[.int .u8 k, .int .u64 n, .string o] 31))
  clear hj
  have hmodn : (n : Int) % 256 = ((n % 256 : Nat) : Int) := by omega
  have hml : n % 256 < 256 := Nat.mod_lt _ (by decide)
  generalize n % 256 = nm at *
  have HN := Lib.hid (fun W => refNumber_at (n : Int) n rfl 1 1 rfl hn (by decide) W)
  go_enter Try.func11, Try.ntmps11
  go_wp2_with (go_at_call 31; refine (u8_nil nm _ hml).mono ?_; rintro r w1 ⟨rfl, rfl⟩)
  go_wp2_with (go_at_call 32; (with_reducible refine (HN.out _).mono ?_); rintro r w2 ⟨rfl, hb⟩; have HB2 := Lib.hid (HBX.out.trans (hb.mono HBX.out.size)); clear hb)
  first | go_ret | go_ret2 | go_ret3
  exact ⟨⟨(be n 1).toArray⟩, rfl, by rw [HLB.out], HB2.out⟩
set_option maxHeartbeats 1000000 in
set_option maxRecDepth 100000 in
theorem layN_k1 (hk : k < 256) (hj : k % 7 = 1) (hn : n < 18446744073709551616) (ho : o.size ≤ 140737488355328) :
    Calls Try.prog 11 #[.pointer none, .agg #[.int .u8 k, .int .u64 n, .string o]] w (LayNil (layB k n o) w) := by
  have hmod : (k : Int) % 7 = 1 := by omega
  have hk2 : (k : Int) < 256 := by omega
  have HLB := Lib.hid (show layB k n o = be n 2 by unfold layB; rw [hj]; first | done | rfl)
  have HBX := Lib.hid (bl_alloc (Below.refl _ w) (.cells #[.int .u8 k, .int .u64 n, .string o] 31))
  clear hj
  have hmodn : (n : Int) % 65536 = ((n % 65536 : Nat) : Int) := by omega
  have hml : n % 65536 < 65536 := Nat.mod_lt _ (by decide)
  have hmodw : IntKind.u16.wrap (n : Int) = ((n % 65536 : Nat) : Int) := by rw [IntKind.wrap_u16]; omega
  generalize n % 65536 = nm at *
  have HN := Lib.hid (fun W => refNumber_at (n : Int) n rfl 2 2 rfl hn (by decide) W)
  go_enter Try.func11, Try.ntmps11
  go_wp2_with (go_at_call 29; refine (u16_nil nm _ hml).mono ?_; rintro r w1 ⟨rfl, rfl⟩)
  go_wp2_with (go_at_call 32; (with_reducible refine (HN.out _).mono ?_); rintro r w2 ⟨rfl, hb⟩; have HB2 := Lib.hid (HBX.out.trans (hb.mono HBX.out.size)); clear hb)
  first | go_ret | go_ret2 | go_ret3
  exact ⟨⟨(be n 2).toArray⟩, rfl, by rw [HLB.out], HB2.out⟩
set_option maxHeartbeats 1000000 in
set_option maxRecDepth 100000 in
theorem layN_k2 (hk : k < 256) (hj : k % 7 = 2) (hn : n < 18446744073709551616) (ho : o.size ≤ 140737488355328) :
    Calls Try.prog 11 #[.pointer none, .agg #[.int .u8 k, .int .u64 n, .string o]] w (LayNil (layB k n o) w) := by
  have hmod : (k : Int) % 7 = 2 := by omega
  have hk2 : (k : Int) < 256 := by omega
  have HLB := Lib.hid (show layB k n o = be n 4 by unfold layB; rw [hj]; first | done | rfl)
  have HBX := Lib.hid (bl_alloc (Below.refl _ w) (.cells #[.int .u8 k, .int .u64 n, .string o] 31))
  clear hj
  have hmodn : (n : Int) % 4294967296 = ((n % 4294967296 : Nat) : Int) := by omega
  have hml : n % 4294967296 < 4294967296 := Nat.mod_lt _ (by decide)
  have hmodw : IntKind.u32.wrap (n : Int) = ((n % 4294967296 : Nat) : Int) := by rw [IntKind.wrap_u32]; omega
  generalize n % 4294967296 = nm at *
  have HN := Lib.hid (fun W => refNumber_at (n : Int) n rfl 4 4 rfl hn (by decide) W)
  go_enter Try.func11, Try.ntmps11
  go_wp2_with (go_at_call 33; refine (u32_nil nm _ hml).mono ?_; rintro r w1 ⟨rfl, rfl⟩)
  go_wp2_with (go_at_call 32; (with_reducible refine (HN.out _).mono ?_); rintro r w2 ⟨rfl, hb⟩; have HB2 := Lib.hid (HBX.out.trans (hb.mono HBX.out.size)); clear hb)
  first | go_ret | go_ret2 | go_ret3
  exact ⟨⟨(be n 4).toArray⟩, rfl, by rw [HLB.out], HB2.out⟩
set_option maxHeartbeats 1000000 in
set_option maxRecDepth 100000 in
theorem layN_k3 (hk : k < 256) (hj : k % 7 = 3) (hn : n < 18446744073709551616) (ho : o.size ≤ 140737488355328) :
    Calls Try.prog 11 #[.pointer none, .agg #[.int .u8 k, .int .u64 n, .string o]] w (LayNil (layB k n o) w) := by
  have hmod : (k : Int) % 7 = 3 := by omega
  have hk2 : (k : Int) < 256 := by omega
  have HLB := Lib.hid (show layB k n o = be n 8 by unfold layB; rw [hj]; first | done | rfl)
  have HBX := Lib.hid (bl_alloc (Below.refl _ w) (.cells #[.int .u8 k, .int .u64 n, .string o] 31))
  clear hj
  have HN := Lib.hid (fun W => refNumber_at (n : Int) n rfl 8 8 rfl hn (by decide) W)
  go_enter Try.func11, Try.ntmps11
  go_wp2_with (go_at_call 34; refine (u64_nil n _ hn).mono ?_; rintro r w1 ⟨rfl, rfl⟩)
  go_wp2_with (go_at_call 32; (with_reducible refine (HN.out _).mono ?_); rintro r w2 ⟨rfl, hb⟩; have HB2 := Lib.hid (HBX.out.trans (hb.mono HBX.out.size)); clear hb)
  first | go_ret | go_ret2 | go_ret3
  exact ⟨⟨(be n 8).toArray⟩, rfl, by rw [HLB.out], HB2.out⟩
set_option maxHeartbeats 1000000 in
set_option maxRecDepth 100000 in
theorem layN_k4 (hk : k < 256) (hj : k % 7 = 4) (hn : n < 18446744073709551616) (ho : o.size ≤ 140737488355328) :
    Calls Try.prog 11 #[.pointer none, .agg #[.int .u8 k, .int .u64 n, .string o]] w (LayNil (layB k n o) w) := by
  have hmod : (k : Int) % 7 = 4 := by omega
  have hk2 : (k : Int) < 256 := by omega
  have HLB := Lib.hid (show layB k n o = short n by unfold layB; rw [hj]; first | done | rfl)
  have HBX := Lib.hid (bl_alloc (Below.refl _ w) (.cells #[.int .u8 k, .int .u64 n, .string o] 31))
  clear hj
  have HN := Lib.hid (fun W => refShort_any n hn W)
  go_enter Try.func11, Try.ntmps11
  go_wp2_with (go_at_call 14; refine (short_nil _ _).mono ?_; rintro r w1 ⟨rfl, rfl⟩)
  go_wp2_with (go_at_call 35; (with_reducible refine (HN.out _).mono ?_); rintro r w2 ⟨rfl, hb⟩; have HB2 := Lib.hid (HBX.out.trans (hb.mono HBX.out.size)); clear hb)
  first | go_ret | go_ret2 | go_ret3
  exact ⟨⟨(short n).toArray⟩, rfl, by rw [HLB.out], HB2.out⟩
set_option maxHeartbeats 1000000 in
set_option maxRecDepth 100000 in
theorem layN_k5 (hk : k < 256) (hj : k % 7 = 5) (hn : n < 18446744073709551616) (ho : o.size ≤ 140737488355328) :
    Calls Try.prog 11 #[.pointer none, .agg #[.int .u8 k, .int .u64 n, .string o]] w (LayNil (layB k n o) w) := by
  have hmod : (k : Int) % 7 = 5 := by omega
  have hk2 : (k : Int) < 256 := by omega
  have HLB := Lib.hid (show layB k n o = o.data.toList by unfold layB; rw [hj]; first | done | rfl)
  have HBX := Lib.hid (bl_alloc (Below.refl _ w) (.cells #[.int .u8 k, .int .u64 n, .string o] 31))
  clear hj
  go_enter Try.func11, Try.ntmps11
  go_wp2_with (go_at_call 36; refine (raw_nil _ _).mono ?_; rintro r w1 ⟨rfl, rfl⟩)
  go_ret
  exact ⟨o, rfl, by rw [HLB.out], HBX.out⟩
set_option maxHeartbeats 1000000 in
set_option maxRecDepth 100000 in
theorem layN_k6 (hk : k < 256) (hj : k % 7 = 6) (hn : n < 18446744073709551616) (ho : o.size ≤ 140737488355328) :
    Calls Try.prog 11 #[.pointer none, .agg #[.int .u8 k, .int .u64 n, .string o]] w (LayNil (layB k n o) w) := by
  have hmod : (k : Int) % 7 = 6 := by omega
  have hk2 : (k : Int) < 256 := by omega
  have HLB := Lib.hid (show layB k n o = textOf o by unfold layB; rw [hj]; first | done | rfl)
  have HBX := Lib.hid (bl_alloc (Below.refl _ w) (.cells #[.int .u8 k, .int .u64 n, .string o] 31))
  clear hj
  have HN := Lib.hid (fun W => refText_any o (by omega) W)
  go_enter Try.func11, Try.ntmps11
  go_wp2_with (go_at_call 30; refine (text_nil _ _).mono ?_; rintro r w1 ⟨rfl, rfl⟩)
  go_wp2_with (go_at_call 37; (with_reducible refine (HN.out _).mono ?_); rintro r w2 ⟨rfl, hb⟩; have HB2 := Lib.hid (HBX.out.trans (hb.mono HBX.out.size)); clear hb)
  first | go_ret | go_ret2 | go_ret3
  exact ⟨⟨(textOf o).toArray⟩, rfl, by rw [HLB.out], HB2.out⟩
theorem layN_any (hk : k < 256) (hn : n < 18446744073709551616) (ho : o.size ≤ 140737488355328) :
    Calls Try.prog 11 #[.pointer none, .agg #[.int .u8 k, .int .u64 n, .string o]] w (LayNil (layB k n o) w) := by
  rcases (show k % 7 = 0 ∨ k % 7 = 1 ∨ k % 7 = 2 ∨ k % 7 = 3 ∨ k % 7 = 4 ∨ k % 7 = 5 ∨ k % 7 = 6 by omega) with hj | hj | hj | hj | hj | hj | hj
  · exact layN_k0 w k n o hk hj hn ho
  · exact layN_k1 w k n o hk hj hn ho
  · exact layN_k2 w k n o hk hj hn ho
  · exact layN_k3 w k n o hk hj hn ho
  · exact layN_k4 w k n o hk hj hn ho
  · exact layN_k5 w k n o hk hj hn ho
  · exact layN_k6 w k n o hk hj hn ho
end
end Go.Proofs.Ytbbcgafkpobndaa
