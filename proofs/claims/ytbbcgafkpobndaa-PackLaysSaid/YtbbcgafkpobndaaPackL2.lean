/- Walks of layer 2: one laying, and the document's bytes of it ('lay'), kind by kind. -/
import Derived.Test.YtbbcgafkpobndaaPackL1
set_option linter.unusedVariables false
set_option linter.unusedSimpArgs false
namespace Go.Proofs.Ytbbcgafkpobndaa
open Go.RowKit PackMath

/-- What is laid of a call. -/
def layB (k n : Nat) (s : ByteArray) : List UInt8 :=
  match k % 7 with
  | 0 => be n 1 | 1 => be n 2 | 2 => be n 4 | 3 => be n 8 | 4 => short n | 5 => s.data.toList | _ => textOf s
theorem Moved.after {w x y : World} {p : Nat} {v v' : Value} (h : Moved w x p v v') (hb : Below x.heap.size x y) : Moved w y p v v' :=
  ⟨hb.os.trans h.os, hb.tape.trans h.tape, hb.output.trans h.output, Nat.le_trans h.size hb.size, fun k hk hp hv => (hb.block k (Nat.lt_of_lt_of_le hk h.size)).trans (h.block k hk hp hv), h.lies⟩
theorem Moved.before {w x y : World} {p : Nat} {v v' : Value} (hb : Below w.heap.size w x) (h : Moved x y p v v') : Moved w y p v v' :=
  ⟨h.os.trans hb.os, h.tape.trans hb.tape, h.output.trans hb.output, Nat.le_trans hb.size h.size, fun k hk hp hv => (h.block k (Nat.lt_of_lt_of_le hk hb.size) hp hv).trans (hb.block k hk), h.lies.imp id fun ⟨g, e, hg⟩ => ⟨g, e, Nat.le_trans hb.size hg⟩⟩
/-- What a laying leaves. -/
def LaySaid (B p : Nat) (v : Value) (bs : List UInt8) (l : List UInt8) (w : World) (r : Ending) (w' : World) : Prop :=
  ∃ S v', r = .returned (.string S) ∧ S.data.toList = l ∧ IsWr B w' p v' (bs ++ l) ∧ Moved w w' p v v'
section
variable (B p : Nat) (w : World) (v : Value) (bs : List UInt8) (k n : Nat) (o : ByteArray)
set_option maxHeartbeats 1000000 in
set_option maxRecDepth 100000 in
theorem lay_k0 (hk : k < 256) (hj : k % 7 = 0) (hn : n < 18446744073709551616) (ho : o.size < 18446744073709551616) (h : IsWr B w p v bs) (hB : B ≤ w.heap.size) (hl : bs.length + 10 ≤ 70000000000000 ∧ o.size ≤ 140737488355328) :
    Calls Try.prog 11 #[.pointer (some ⟨p, 0, none⟩), .agg #[.int .u8 k, .int .u64 n, .string o]] w (LaySaid B p v bs (layB k n o) w) := by
  have hmod : (k : Int) % 7 = 0 := by omega
  have hk2 : (k : Int) < 256 := by omega
  have HLB := Lib.hid (show layB k n o = be n 1 by unfold layB; rw [hj]; first | done | rfl)
  have hpl : p < w.heap.size := (Array.getElem?_eq_some_iff.1 h.cell).1
  have HW := Lib.hid (h.below (bl_alloc (Below.refl _ w) (.cells #[.int .u8 k, .int .u64 n, .string o] 31)))
  have HBX := Lib.hid (bl_alloc (Below.refl _ w) (.cells #[.int .u8 k, .int .u64 n, .string o] 31))
  have c0 := fun i u (hc : (w.alloc (.cells #[.int .u8 k, .int .u64 n, .string o] 31)).cell? ⟨w.heap.size, i, none⟩ = some u) (w1 : World) (v1 : Value) (hm : Moved (w.alloc (.cells #[.int .u8 k, .int .u64 n, .string o] 31)) w1 p v v1) => (World.cell?_of_block (a := ⟨w.heap.size, i, none⟩) (hm.block w.heap.size (by simp) (by omega) (fun e => by have := own_lt h.own _ e.symm; omega))).trans hc
  have HC := Lib.hid c0
  have hB1 : B ≤ (w.alloc (.cells #[.int .u8 k, .int .u64 n, .string o] 31)).heap.size := Nat.le_trans hB HBX.out.size
  have HB1 := Lib.hid hB1
  clear hj h c0 hB1
  have hmodn : (n : Int) % 256 = ((n % 256 : Nat) : Int) := by omega
  have hml : n % 256 < 256 := Nat.mod_lt _ (by decide)
  have HBE := Lib.hid (show be (n % 256) 1 = be n 1 from be_mod n 1 1 (Nat.le_refl _))
  generalize n % 256 = nm at *
  have HN := Lib.hid (fun W => refNumber_at (n : Int) n rfl 1 1 rfl hn (by decide) W)
  go_enter Try.func11, Try.ntmps11
  go_wp2_with (go_at_call 31; refine (u8_any B p nm _ v bs hml HW.out HB1.out (by omega)).mono ?_; rintro r w1 ⟨rfl, v1, hw, hm⟩; rw [HBE.out] at hw; have n1 := HC.out 1 (.int .u64 n) (by rw [World.cell?_alloc_mark]; rfl) _ _ hm; have HM1 := Lib.hid (Moved.before HBX.out hm); have HW1 := Lib.hid hw; clear hw hm)
  go_wp2_with (go_at_call 32; (with_reducible refine (HN.out _).mono ?_); rintro r w2 ⟨rfl, hb⟩; have HM2 := Lib.hid (HM1.out.after hb); have HW2 := Lib.hid (HW1.out.below hb); clear hb)
  first | go_ret | go_ret2 | go_ret3
  refine ⟨⟨(be n 1).toArray⟩, v1, rfl, ?_, ?_, HM2.out⟩
  · rw [HLB.out]
  · rw [HLB.out]; exact HW2.out
set_option maxHeartbeats 1000000 in
set_option maxRecDepth 100000 in
theorem lay_k1 (hk : k < 256) (hj : k % 7 = 1) (hn : n < 18446744073709551616) (ho : o.size < 18446744073709551616) (h : IsWr B w p v bs) (hB : B ≤ w.heap.size) (hl : bs.length + 10 ≤ 70000000000000 ∧ o.size ≤ 140737488355328) :
    Calls Try.prog 11 #[.pointer (some ⟨p, 0, none⟩), .agg #[.int .u8 k, .int .u64 n, .string o]] w (LaySaid B p v bs (layB k n o) w) := by
  have hmod : (k : Int) % 7 = 1 := by omega
  have hk2 : (k : Int) < 256 := by omega
  have HLB := Lib.hid (show layB k n o = be n 2 by unfold layB; rw [hj]; first | done | rfl)
  have hpl : p < w.heap.size := (Array.getElem?_eq_some_iff.1 h.cell).1
  have HW := Lib.hid (h.below (bl_alloc (Below.refl _ w) (.cells #[.int .u8 k, .int .u64 n, .string o] 31)))
  have HBX := Lib.hid (bl_alloc (Below.refl _ w) (.cells #[.int .u8 k, .int .u64 n, .string o] 31))
  have c0 := fun i u (hc : (w.alloc (.cells #[.int .u8 k, .int .u64 n, .string o] 31)).cell? ⟨w.heap.size, i, none⟩ = some u) (w1 : World) (v1 : Value) (hm : Moved (w.alloc (.cells #[.int .u8 k, .int .u64 n, .string o] 31)) w1 p v v1) => (World.cell?_of_block (a := ⟨w.heap.size, i, none⟩) (hm.block w.heap.size (by simp) (by omega) (fun e => by have := own_lt h.own _ e.symm; omega))).trans hc
  have HC := Lib.hid c0
  have hB1 : B ≤ (w.alloc (.cells #[.int .u8 k, .int .u64 n, .string o] 31)).heap.size := Nat.le_trans hB HBX.out.size
  have HB1 := Lib.hid hB1
  clear hj h c0 hB1
  have hmodn : (n : Int) % 65536 = ((n % 65536 : Nat) : Int) := by omega
  have hml : n % 65536 < 65536 := Nat.mod_lt _ (by decide)
  have HBE := Lib.hid (show be (n % 65536) 2 = be n 2 from be_mod n 2 2 (Nat.le_refl _))
  have hmodw : IntKind.u16.wrap (n : Int) = ((n % 65536 : Nat) : Int) := by rw [IntKind.wrap_u16]; omega
  generalize n % 65536 = nm at *
  have HN := Lib.hid (fun W => refNumber_at (n : Int) n rfl 2 2 rfl hn (by decide) W)
  go_enter Try.func11, Try.ntmps11
  go_wp2_with (go_at_call 29; refine (u16_any B p nm _ v bs hml HW.out HB1.out (by omega)).mono ?_; rintro r w1 ⟨rfl, v1, hw, hm⟩; rw [HBE.out] at hw; have n1 := HC.out 1 (.int .u64 n) (by rw [World.cell?_alloc_mark]; rfl) _ _ hm; have HM1 := Lib.hid (Moved.before HBX.out hm); have HW1 := Lib.hid hw; clear hw hm)
  go_wp2_with (go_at_call 32; (with_reducible refine (HN.out _).mono ?_); rintro r w2 ⟨rfl, hb⟩; have HM2 := Lib.hid (HM1.out.after hb); have HW2 := Lib.hid (HW1.out.below hb); clear hb)
  first | go_ret | go_ret2 | go_ret3
  refine ⟨⟨(be n 2).toArray⟩, v1, rfl, ?_, ?_, HM2.out⟩
  · rw [HLB.out]
  · rw [HLB.out]; exact HW2.out
set_option maxHeartbeats 1000000 in
set_option maxRecDepth 100000 in
theorem lay_k2 (hk : k < 256) (hj : k % 7 = 2) (hn : n < 18446744073709551616) (ho : o.size < 18446744073709551616) (h : IsWr B w p v bs) (hB : B ≤ w.heap.size) (hl : bs.length + 10 ≤ 70000000000000 ∧ o.size ≤ 140737488355328) :
    Calls Try.prog 11 #[.pointer (some ⟨p, 0, none⟩), .agg #[.int .u8 k, .int .u64 n, .string o]] w (LaySaid B p v bs (layB k n o) w) := by
  have hmod : (k : Int) % 7 = 2 := by omega
  have hk2 : (k : Int) < 256 := by omega
  have HLB := Lib.hid (show layB k n o = be n 4 by unfold layB; rw [hj]; first | done | rfl)
  have hpl : p < w.heap.size := (Array.getElem?_eq_some_iff.1 h.cell).1
  have HW := Lib.hid (h.below (bl_alloc (Below.refl _ w) (.cells #[.int .u8 k, .int .u64 n, .string o] 31)))
  have HBX := Lib.hid (bl_alloc (Below.refl _ w) (.cells #[.int .u8 k, .int .u64 n, .string o] 31))
  have c0 := fun i u (hc : (w.alloc (.cells #[.int .u8 k, .int .u64 n, .string o] 31)).cell? ⟨w.heap.size, i, none⟩ = some u) (w1 : World) (v1 : Value) (hm : Moved (w.alloc (.cells #[.int .u8 k, .int .u64 n, .string o] 31)) w1 p v v1) => (World.cell?_of_block (a := ⟨w.heap.size, i, none⟩) (hm.block w.heap.size (by simp) (by omega) (fun e => by have := own_lt h.own _ e.symm; omega))).trans hc
  have HC := Lib.hid c0
  have hB1 : B ≤ (w.alloc (.cells #[.int .u8 k, .int .u64 n, .string o] 31)).heap.size := Nat.le_trans hB HBX.out.size
  have HB1 := Lib.hid hB1
  clear hj h c0 hB1
  have hmodn : (n : Int) % 4294967296 = ((n % 4294967296 : Nat) : Int) := by omega
  have hml : n % 4294967296 < 4294967296 := Nat.mod_lt _ (by decide)
  have HBE := Lib.hid (show be (n % 4294967296) 4 = be n 4 from be_mod n 4 4 (Nat.le_refl _))
  have hmodw : IntKind.u32.wrap (n : Int) = ((n % 4294967296 : Nat) : Int) := by rw [IntKind.wrap_u32]; omega
  generalize n % 4294967296 = nm at *
  have HN := Lib.hid (fun W => refNumber_at (n : Int) n rfl 4 4 rfl hn (by decide) W)
  go_enter Try.func11, Try.ntmps11
  go_wp2_with (go_at_call 33; refine (u32_any B p nm _ v bs hml HW.out HB1.out (by omega)).mono ?_; rintro r w1 ⟨rfl, v1, hw, hm⟩; rw [HBE.out] at hw; have n1 := HC.out 1 (.int .u64 n) (by rw [World.cell?_alloc_mark]; rfl) _ _ hm; have HM1 := Lib.hid (Moved.before HBX.out hm); have HW1 := Lib.hid hw; clear hw hm)
  go_wp2_with (go_at_call 32; (with_reducible refine (HN.out _).mono ?_); rintro r w2 ⟨rfl, hb⟩; have HM2 := Lib.hid (HM1.out.after hb); have HW2 := Lib.hid (HW1.out.below hb); clear hb)
  first | go_ret | go_ret2 | go_ret3
  refine ⟨⟨(be n 4).toArray⟩, v1, rfl, ?_, ?_, HM2.out⟩
  · rw [HLB.out]
  · rw [HLB.out]; exact HW2.out
set_option maxHeartbeats 1000000 in
set_option maxRecDepth 100000 in
theorem lay_k3 (hk : k < 256) (hj : k % 7 = 3) (hn : n < 18446744073709551616) (ho : o.size < 18446744073709551616) (h : IsWr B w p v bs) (hB : B ≤ w.heap.size) (hl : bs.length + 10 ≤ 70000000000000 ∧ o.size ≤ 140737488355328) :
    Calls Try.prog 11 #[.pointer (some ⟨p, 0, none⟩), .agg #[.int .u8 k, .int .u64 n, .string o]] w (LaySaid B p v bs (layB k n o) w) := by
  have hmod : (k : Int) % 7 = 3 := by omega
  have hk2 : (k : Int) < 256 := by omega
  have HLB := Lib.hid (show layB k n o = be n 8 by unfold layB; rw [hj]; first | done | rfl)
  have hpl : p < w.heap.size := (Array.getElem?_eq_some_iff.1 h.cell).1
  have HW := Lib.hid (h.below (bl_alloc (Below.refl _ w) (.cells #[.int .u8 k, .int .u64 n, .string o] 31)))
  have HBX := Lib.hid (bl_alloc (Below.refl _ w) (.cells #[.int .u8 k, .int .u64 n, .string o] 31))
  have c0 := fun i u (hc : (w.alloc (.cells #[.int .u8 k, .int .u64 n, .string o] 31)).cell? ⟨w.heap.size, i, none⟩ = some u) (w1 : World) (v1 : Value) (hm : Moved (w.alloc (.cells #[.int .u8 k, .int .u64 n, .string o] 31)) w1 p v v1) => (World.cell?_of_block (a := ⟨w.heap.size, i, none⟩) (hm.block w.heap.size (by simp) (by omega) (fun e => by have := own_lt h.own _ e.symm; omega))).trans hc
  have HC := Lib.hid c0
  have hB1 : B ≤ (w.alloc (.cells #[.int .u8 k, .int .u64 n, .string o] 31)).heap.size := Nat.le_trans hB HBX.out.size
  have HB1 := Lib.hid hB1
  clear hj h c0 hB1
  have HN := Lib.hid (fun W => refNumber_at (n : Int) n rfl 8 8 rfl hn (by decide) W)
  go_enter Try.func11, Try.ntmps11
  go_wp2_with (go_at_call 34; refine (u64_any B p n _ v bs hn HW.out HB1.out (by omega)).mono ?_; rintro r w1 ⟨rfl, v1, hw, hm⟩; have n1 := HC.out 1 (.int .u64 n) (by rw [World.cell?_alloc_mark]; rfl) _ _ hm; have HM1 := Lib.hid (Moved.before HBX.out hm); have HW1 := Lib.hid hw; clear hw hm)
  go_wp2_with (go_at_call 32; (with_reducible refine (HN.out _).mono ?_); rintro r w2 ⟨rfl, hb⟩; have HM2 := Lib.hid (HM1.out.after hb); have HW2 := Lib.hid (HW1.out.below hb); clear hb)
  first | go_ret | go_ret2 | go_ret3
  refine ⟨⟨(be n 8).toArray⟩, v1, rfl, ?_, ?_, HM2.out⟩
  · rw [HLB.out]
  · rw [HLB.out]; exact HW2.out
set_option maxHeartbeats 1000000 in
set_option maxRecDepth 100000 in
theorem lay_k4 (hk : k < 256) (hj : k % 7 = 4) (hn : n < 18446744073709551616) (ho : o.size < 18446744073709551616) (h : IsWr B w p v bs) (hB : B ≤ w.heap.size) (hl : bs.length + 10 ≤ 70000000000000 ∧ o.size ≤ 140737488355328) :
    Calls Try.prog 11 #[.pointer (some ⟨p, 0, none⟩), .agg #[.int .u8 k, .int .u64 n, .string o]] w (LaySaid B p v bs (layB k n o) w) := by
  have hmod : (k : Int) % 7 = 4 := by omega
  have hk2 : (k : Int) < 256 := by omega
  have HLB := Lib.hid (show layB k n o = short n by unfold layB; rw [hj]; first | done | rfl)
  have hpl : p < w.heap.size := (Array.getElem?_eq_some_iff.1 h.cell).1
  have HW := Lib.hid (h.below (bl_alloc (Below.refl _ w) (.cells #[.int .u8 k, .int .u64 n, .string o] 31)))
  have HBX := Lib.hid (bl_alloc (Below.refl _ w) (.cells #[.int .u8 k, .int .u64 n, .string o] 31))
  have c0 := fun i u (hc : (w.alloc (.cells #[.int .u8 k, .int .u64 n, .string o] 31)).cell? ⟨w.heap.size, i, none⟩ = some u) (w1 : World) (v1 : Value) (hm : Moved (w.alloc (.cells #[.int .u8 k, .int .u64 n, .string o] 31)) w1 p v v1) => (World.cell?_of_block (a := ⟨w.heap.size, i, none⟩) (hm.block w.heap.size (by simp) (by omega) (fun e => by have := own_lt h.own _ e.symm; omega))).trans hc
  have HC := Lib.hid c0
  have hB1 : B ≤ (w.alloc (.cells #[.int .u8 k, .int .u64 n, .string o] 31)).heap.size := Nat.le_trans hB HBX.out.size
  have HB1 := Lib.hid hB1
  clear hj h c0 hB1
  have HN := Lib.hid (fun W => refShort_any n hn W)
  go_enter Try.func11, Try.ntmps11
  go_wp2_with (go_at_call 14; refine (short_any B p n hn _ v bs HW.out HB1.out (by omega)).mono ?_; rintro r w1 ⟨rfl, v1, hw, hm⟩; have n1 := HC.out 1 (.int .u64 n) (by rw [World.cell?_alloc_mark]; rfl) _ _ hm; have HM1 := Lib.hid (Moved.before HBX.out hm); have HW1 := Lib.hid hw; clear hw hm)
  go_wp2_with (go_at_call 35; (with_reducible refine (HN.out _).mono ?_); rintro r w2 ⟨rfl, hb⟩; have HM2 := Lib.hid (HM1.out.after hb); have HW2 := Lib.hid (HW1.out.below hb); clear hb)
  first | go_ret | go_ret2 | go_ret3
  refine ⟨⟨(short n).toArray⟩, v1, rfl, ?_, ?_, HM2.out⟩
  · rw [HLB.out]
  · rw [HLB.out]; exact HW2.out
set_option maxHeartbeats 1000000 in
set_option maxRecDepth 100000 in
theorem lay_k5 (hk : k < 256) (hj : k % 7 = 5) (hn : n < 18446744073709551616) (ho : o.size < 18446744073709551616) (h : IsWr B w p v bs) (hB : B ≤ w.heap.size) (hl : bs.length + 10 ≤ 70000000000000 ∧ o.size ≤ 140737488355328) :
    Calls Try.prog 11 #[.pointer (some ⟨p, 0, none⟩), .agg #[.int .u8 k, .int .u64 n, .string o]] w (LaySaid B p v bs (layB k n o) w) := by
  have hmod : (k : Int) % 7 = 5 := by omega
  have hk2 : (k : Int) < 256 := by omega
  have HLB := Lib.hid (show layB k n o = o.data.toList by unfold layB; rw [hj]; first | done | rfl)
  have hpl : p < w.heap.size := (Array.getElem?_eq_some_iff.1 h.cell).1
  have HW := Lib.hid (h.below (bl_alloc (Below.refl _ w) (.cells #[.int .u8 k, .int .u64 n, .string o] 31)))
  have HBX := Lib.hid (bl_alloc (Below.refl _ w) (.cells #[.int .u8 k, .int .u64 n, .string o] 31))
  have c0 := fun i u (hc : (w.alloc (.cells #[.int .u8 k, .int .u64 n, .string o] 31)).cell? ⟨w.heap.size, i, none⟩ = some u) (w1 : World) (v1 : Value) (hm : Moved (w.alloc (.cells #[.int .u8 k, .int .u64 n, .string o] 31)) w1 p v v1) => (World.cell?_of_block (a := ⟨w.heap.size, i, none⟩) (hm.block w.heap.size (by simp) (by omega) (fun e => by have := own_lt h.own _ e.symm; omega))).trans hc
  have HC := Lib.hid c0
  have hB1 : B ≤ (w.alloc (.cells #[.int .u8 k, .int .u64 n, .string o] 31)).heap.size := Nat.le_trans hB HBX.out.size
  have HB1 := Lib.hid hB1
  clear hj h c0 hB1
  go_enter Try.func11, Try.ntmps11
  go_wp2_with (go_at_call 36; refine (raw_any B p o _ v bs HW.out HB1.out (by omega)).mono ?_; rintro r w1 ⟨rfl, v1, hw, hm⟩; have n2 := HC.out 2 (.string o) (by rw [World.cell?_alloc_mark]; rfl) _ _ hm; have HM1 := Lib.hid (Moved.before HBX.out hm); have HW1 := Lib.hid hw; clear hw hm)
  go_ret
  refine ⟨o, v1, rfl, ?_, ?_, HM1.out⟩
  · rw [HLB.out]
  · rw [HLB.out]; exact HW1.out
set_option maxHeartbeats 1000000 in
set_option maxRecDepth 100000 in
theorem lay_k6 (hk : k < 256) (hj : k % 7 = 6) (hn : n < 18446744073709551616) (ho : o.size < 18446744073709551616) (h : IsWr B w p v bs) (hB : B ≤ w.heap.size) (hl : bs.length + 10 ≤ 70000000000000 ∧ o.size ≤ 140737488355328) :
    Calls Try.prog 11 #[.pointer (some ⟨p, 0, none⟩), .agg #[.int .u8 k, .int .u64 n, .string o]] w (LaySaid B p v bs (layB k n o) w) := by
  have hmod : (k : Int) % 7 = 6 := by omega
  have hk2 : (k : Int) < 256 := by omega
  have HLB := Lib.hid (show layB k n o = textOf o by unfold layB; rw [hj]; first | done | rfl)
  have hpl : p < w.heap.size := (Array.getElem?_eq_some_iff.1 h.cell).1
  have HW := Lib.hid (h.below (bl_alloc (Below.refl _ w) (.cells #[.int .u8 k, .int .u64 n, .string o] 31)))
  have HBX := Lib.hid (bl_alloc (Below.refl _ w) (.cells #[.int .u8 k, .int .u64 n, .string o] 31))
  have c0 := fun i u (hc : (w.alloc (.cells #[.int .u8 k, .int .u64 n, .string o] 31)).cell? ⟨w.heap.size, i, none⟩ = some u) (w1 : World) (v1 : Value) (hm : Moved (w.alloc (.cells #[.int .u8 k, .int .u64 n, .string o] 31)) w1 p v v1) => (World.cell?_of_block (a := ⟨w.heap.size, i, none⟩) (hm.block w.heap.size (by simp) (by omega) (fun e => by have := own_lt h.own _ e.symm; omega))).trans hc
  have HC := Lib.hid c0
  have hB1 : B ≤ (w.alloc (.cells #[.int .u8 k, .int .u64 n, .string o] 31)).heap.size := Nat.le_trans hB HBX.out.size
  have HB1 := Lib.hid hB1
  clear hj h c0 hB1
  have HN := Lib.hid (fun W => refText_any o (by omega) W)
  go_enter Try.func11, Try.ntmps11
  go_wp2_with (go_at_call 30; refine (text_any B p o ho _ v bs HW.out HB1.out (by omega)).mono ?_; rintro r w1 ⟨rfl, v1, hw, hm⟩; have n2 := HC.out 2 (.string o) (by rw [World.cell?_alloc_mark]; rfl) _ _ hm; have HM1 := Lib.hid (Moved.before HBX.out hm); have HW1 := Lib.hid hw; clear hw hm)
  go_wp2_with (go_at_call 37; (with_reducible refine (HN.out _).mono ?_); rintro r w2 ⟨rfl, hb⟩; have HM2 := Lib.hid (HM1.out.after hb); have HW2 := Lib.hid (HW1.out.below hb); clear hb)
  first | go_ret | go_ret2 | go_ret3
  refine ⟨⟨(textOf o).toArray⟩, v1, rfl, ?_, ?_, HM2.out⟩
  · rw [HLB.out]
  · rw [HLB.out]; exact HW2.out
theorem lay_any (hk : k < 256) (hn : n < 18446744073709551616) (ho : o.size < 18446744073709551616) (h : IsWr B w p v bs) (hB : B ≤ w.heap.size) (hl : bs.length + 10 ≤ 70000000000000 ∧ o.size ≤ 140737488355328) :
    Calls Try.prog 11 #[.pointer (some ⟨p, 0, none⟩), .agg #[.int .u8 k, .int .u64 n, .string o]] w (LaySaid B p v bs (layB k n o) w) := by
  rcases (show k % 7 = 0 ∨ k % 7 = 1 ∨ k % 7 = 2 ∨ k % 7 = 3 ∨ k % 7 = 4 ∨ k % 7 = 5 ∨ k % 7 = 6 by omega) with hj | hj | hj | hj | hj | hj | hj
  · exact lay_k0 B p w v bs k n o hk hj hn ho h hB hl
  · exact lay_k1 B p w v bs k n o hk hj hn ho h hB hl
  · exact lay_k2 B p w v bs k n o hk hj hn ho h hB hl
  · exact lay_k3 B p w v bs k n o hk hj hn ho h hB hl
  · exact lay_k4 B p w v bs k n o hk hj hn ho h hB hl
  · exact lay_k5 B p w v bs k n o hk hj hn ho h hB hl
  · exact lay_k6 B p w v bs k n o hk hj hn ho h hB hl
end
end Go.Proofs.Ytbbcgafkpobndaa
