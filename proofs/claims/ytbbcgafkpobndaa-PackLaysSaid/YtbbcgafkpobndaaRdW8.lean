/- Walks of layer 2: one call of both readers ('read'), kind by kind. -/
import Derived.Test.YtbbcgafkpobndaaRdW7
set_option linter.unusedVariables false
set_option linter.unusedSimpArgs false
namespace Go.Proofs.Ytbbcgafkpobndaa
open Go.RowKit PackMath

theorem quiet_left {P : Program} {f : FuncId} {args : Array Value} {w : World} {n : Nat} {v : Value}
    (h : Calls P f args (w.drewN n) fun e w' => e = .returned v ∧ w.drewN n = w') : Calls P f args (w.drewN n) fun e w'' => e = .returned v ∧ ∃ m, w'' = w.drewN m :=
  h.mono fun _ _ ⟨he, hm⟩ => ⟨he, n, hm.symm⟩
theorem IsRd.drewN {T : TypeId} {w : World} {p : Nat} {s : ByteArray} {a e : Nat} (h : IsRd T w p s a e) (n : Nat) : IsRd T (w.drewN n) p s a e := ⟨h.cell, h.le, h.small⟩
theorem below_drewN {B : Nat} {a w : World} (h : Below B a w) (n : Nat) : Below B a (w.drewN n) := ⟨h.os, h.tape, h.output, h.size, h.block⟩

/-- Both readers, at one text, at one place, with one error. -/
structure Two (B : Nat) (w : World) (p q : Nat) (s : ByteArray) (a e : Nat) : Prop where
  r : IsRd TR w p s a e
  x : IsRd TX w q s a e
  ne : p ≠ q
  bp : B ≤ p
  bq : B ≤ q
theorem Two.lt {B : Nat} {w : World} {p q : Nat} {s : ByteArray} {a e : Nat} (h : Two B w p q s a e) : p < w.heap.size ∧ q < w.heap.size :=
  ⟨(Array.getElem?_eq_some_iff.1 h.r.cell).1, (Array.getElem?_eq_some_iff.1 h.x.cell).1⟩
theorem Two.below {B : Nat} {w w' : World} {p q : Nat} {s : ByteArray} {a e : Nat} (h : Two B w p q s a e) (k : Below w.heap.size w w') : Two B w' p q s a e :=
  ⟨h.r.below k, h.x.below k, h.ne, h.bp, h.bq⟩
theorem Two.alloc {B : Nat} {w : World} {p q : Nat} {s : ByteArray} {a e : Nat} (h : Two B w p q s a e) (o : Obj) : Two B (w.alloc o) p q s a e := h.below (bl_alloc (Below.refl _ _) o)
theorem Two.drewN {B : Nat} {w : World} {p q : Nat} {s : ByteArray} {a e : Nat} (h : Two B w p q s a e) (n : Nat) : Two B (w.drewN n) p q s a e := ⟨h.r.drewN n, h.x.drewN n, h.ne, h.bp, h.bq⟩
theorem Two.fst {B : Nat} {w w1 : World} {p q : Nat} {s : ByteArray} {a e : Nat} (h : Two B w p q s a e) (k : Kept w w1 p) : IsRd TX w1 q s a e := h.x.keep k (Ne.symm h.ne)
theorem Two.both {B : Nat} {w w1 w2 : World} {p q : Nat} {s : ByteArray} {a e b g : Nat} (h : Two B w p q s a e) (k : Kept w w1 p) (r : IsRd TR w1 p s b g) (k2 : Kept w1 w2 q) (x : IsRd TX w2 q s b g) :
    Two B w2 p q s b g ∧ Below B w w2 :=
  ⟨⟨r.keep k2 h.ne, x, h.ne, h.bp, h.bq⟩, (k.below h.bp (Nat.le_trans h.bp (Nat.le_of_lt h.lt.1))).trans (k2.below h.bq (Nat.le_trans h.bp (Nat.le_trans (Nat.le_of_lt h.lt.1) k.size)))⟩
theorem Two.box {B : Nat} {w w1 : World} {p q : Nat} {s : ByteArray} {a e : Nat} (h : Two B w p q s a e) {o : Obj} (k : Kept (w.alloc o) w1 p) {i : Nat} {v : Value} (hc : (w.alloc o).cell? ⟨w.heap.size, i, none⟩ = some v) : w1.cell? ⟨w.heap.size, i, none⟩ = some v := by
  rw [World.cell?_of_block (k.block w.heap.size (by simp) (Nat.ne_of_gt h.lt.1))]
  exact hc

section
variable (p : Nat) (s : ByteArray) (a e : Nat) (w : World)
theorem rLeft_q (h : IsRd TR w p s a e) : Calls Try.prog 27 #[.pointer (some ⟨p, 0, none⟩)] w fun r w' => r = .returned (.int .i64 ((s.size : Int) - a)) ∧ ∃ n, w' = w.drewN n := by
  obtain ⟨c0, c1, c2, f0, f1, f2⟩ := h.cells
  have hsub : IntKind.i64.wrap ((s.size : Int) - a) = (s.size : Int) - a := IntWalk.i64_in _ (by have := h.le; have := h.small; omega)
  clear h
  go_enter Try.func27, Try.ntmps27
  go_wp2
  go_quiet (fail)
  go_wp2
  go_ret
  exact ⟨rfl, _, rfl⟩
theorem xLeft_q (h : IsRd TX w p s a e) : Calls Try.prog 45 #[.pointer (some ⟨p, 0, none⟩)] w fun r w' => r = .returned (.int .i64 ((s.size : Int) - a)) ∧ ∃ n, w' = w.drewN n := by
  obtain ⟨c0, c1, c2, f0, f1, f2⟩ := h.cells
  have hsub : IntKind.i64.wrap ((s.size : Int) - a) = (s.size : Int) - a := IntWalk.i64_in _ (by have := h.le; have := h.small; omega)
  clear h
  go_enter Try.func45, Try.ntmps45
  go_wp2
  go_quiet (fail)
  go_wp2
  go_ret
  exact ⟨rfl, _, rfl⟩
theorem rU8_ex (v f b g : Nat) (hN : numR s a e 1 = ((v, f), (b, g))) (h : IsRd TR w p s a e) : Calls Try.prog 22 #[.pointer (some ⟨p, 0, none⟩)] w fun r w' => r = .returned (.tuple #[.int .u8 v, .int .i64 f]) ∧ Kept w w' p ∧ IsRd TR w' p s b g := by
  have := rU8 p s a e w h
  rw [hN] at this
  exact this
theorem rU16_ex (v f b g : Nat) (hN : numR s a e 2 = ((v, f), (b, g))) (h : IsRd TR w p s a e) : Calls Try.prog 40 #[.pointer (some ⟨p, 0, none⟩)] w fun r w' => r = .returned (.tuple #[.int .u16 v, .int .i64 f]) ∧ Kept w w' p ∧ IsRd TR w' p s b g := by
  have := rU16 p s a e w h
  rw [hN] at this
  exact this
theorem rU32_ex (v f b g : Nat) (hN : numR s a e 4 = ((v, f), (b, g))) (h : IsRd TR w p s a e) : Calls Try.prog 41 #[.pointer (some ⟨p, 0, none⟩)] w fun r w' => r = .returned (.tuple #[.int .u32 v, .int .i64 f]) ∧ Kept w w' p ∧ IsRd TR w' p s b g := by
  have := rU32 p s a e w h
  rw [hN] at this
  exact this
theorem rU64_ex (v f b g : Nat) (hN : numR s a e 8 = ((v, f), (b, g))) (h : IsRd TR w p s a e) : Calls Try.prog 25 #[.pointer (some ⟨p, 0, none⟩)] w fun r w' => r = .returned (.tuple #[.int .u64 v, .int .i64 f]) ∧ Kept w w' p ∧ IsRd TR w' p s b g := by
  have := rU64 p s a e w h
  rw [hN] at this
  exact this
theorem xNumber_ex (j : Int) (n : Nat) (hj : j = n) (hn : n ≤ 8) (v f b g : Nat) (hN : numR s a e n = ((v, f), (b, g))) (h : IsRd TX w p s a e) : Calls Try.prog 39 #[.pointer (some ⟨p, 0, none⟩), .int .i64 j] w fun r w' => r = .returned (.tuple #[.int .u64 v, .int .i64 f]) ∧ Kept w w' p ∧ IsRd TX w' p s b g := by
  subst hj
  have := xNumber p s a e n w h hn
  rw [hN] at this
  exact this
theorem rRaw_ex (n : Int) (hn0 : -9223372036854775808 ≤ n) (hn1 : n < 9223372036854775808) (t : ByteArray) (f b g : Nat) (hN : rawR s a e n = ((t, f), (b, g))) (h : IsRd TR w p s a e) : Calls Try.prog 23 #[.pointer (some ⟨p, 0, none⟩), .int .i64 n] w fun r w' => r = .returned (.tuple #[.string t, .int .i64 f]) ∧ Kept w w' p ∧ IsRd TR w' p s b g := by
  have := rRaw p s a e w n h hn0 hn1
  rw [hN] at this
  exact this
theorem rText_ex (n : Int) (hn0 : -9223372036854775808 ≤ n) (hn1 : n < 9223372036854775808) (t : ByteArray) (f b g : Nat) (hN : textR s a e n = ((t, f), (b, g))) (h : IsRd TR w p s a e) : Calls Try.prog 24 #[.pointer (some ⟨p, 0, none⟩), .int .i64 n] w fun r w' => r = .returned (.tuple #[.string t, .int .i64 f]) ∧ Kept w w' p ∧ IsRd TR w' p s b g := by
  have := rText p s a e w n h hn0 hn1
  rw [hN] at this
  exact this
theorem xRaw_ex (n : Int) (hn0 : -9223372036854775808 ≤ n) (hn1 : n < 9223372036854775808) (t : ByteArray) (f b g : Nat) (hN : rawR s a e n = ((t, f), (b, g))) (h : IsRd TX w p s a e) : Calls Try.prog 43 #[.pointer (some ⟨p, 0, none⟩), .int .i64 n] w fun r w' => r = .returned (.tuple #[.string t, .int .i64 f]) ∧ Kept w w' p ∧ IsRd TX w' p s b g := by
  have := xRaw p s a e w n h hn0 hn1
  rw [hN] at this
  exact this
theorem xText_ex (n : Int) (hn0 : -9223372036854775808 ≤ n) (hn1 : n < 9223372036854775808) (t : ByteArray) (f b g : Nat) (hN : textR s a e n = ((t, f), (b, g))) (h : IsRd TX w p s a e) : Calls Try.prog 44 #[.pointer (some ⟨p, 0, none⟩), .int .i64 n] w fun r w' => r = .returned (.tuple #[.string t, .int .i64 f]) ∧ Kept w w' p ∧ IsRd TX w' p s b g := by
  have := xText p s a e w n h hn0 hn1
  rw [hN] at this
  exact this
end
section
variable (B p q : Nat) (s : ByteArray) (a e : Nat) (w : World) (k n : Nat) (o : ByteArray)
/-- What one call of both readers leaves. -/
def ReadSaid (B p q : Nat) (s : ByteArray) (w : World) (r : Ending) (w' : World) : Prop := r = .returned (.bool true) ∧ ∃ a' e', Two B w' p q s a' e' ∧ Below B w w'
set_option maxHeartbeats 1600000 in
set_option maxRecDepth 100000 in
theorem read_k0 (hk : k < 256) (hj : k % 7 = 0) (hn : n < 18446744073709551616) (h : Two B w p q s a e) :
    Calls Try.prog 19 #[.pointer (some ⟨p, 0, none⟩), .pointer (some ⟨q, 0, none⟩), .agg #[.int .u8 k, .int .u64 n, .string o]] w (ReadSaid B p q s w) := by
  have hmod : (k : Int) % 7 = 0 := by omega
  have hle := h.r.le
  have hsm := h.r.small
  have HT := Lib.hid h
  have hk2 : (k : Int) < 256 := by omega
  clear hj h
  obtain ⟨v, f, b, g, hN⟩ : ∃ v f b g, numR s a e 1 = ((v, f), (b, g)) := ⟨_, _, _, _, rfl⟩
  have hv : v < 256 := by have := numR_lt s a e 1; rw [hN] at this; exact this
  have HN := Lib.hid hN
  clear hN
  go_enter Try.func19, Try.ntmps19
  go_wp2_with (go_at_call 22; refine (rU8_ex p s a e _ v f b g HN.out (HT.out.alloc _).r).mono ?_; rintro r w1 ⟨rfl, hh⟩; have HK1 := Lib.hid hh; clear hh)
  go_wp2_with (go_at_call 39; refine (xNumber_ex q s a e w1 _ 1 rfl (by decide) v f b g HN.out ((HT.out.alloc _).fst HK1.out.1)).mono ?_; rintro r w2 ⟨rfl, hh⟩; have HK2 := Lib.hid hh; clear hh)
  have HT2 := Lib.hid ((HT.out.alloc _).both HK1.out.1 HK1.out.2 HK2.out.1 HK2.out.2)
  obtain ⟨c0, c1, c2, f0, f1, f2⟩ := HT2.out.1.x.cells
  go_quiet (first
    | (go_at_call 17; exact quiet_left (rAt p s b g _ (HT2.out.1.r.drewN _)))
    | (go_at_call 26; exact quiet_left (rErr p s b g _ (HT2.out.1.r.drewN _)))
    | (go_at_call 27; exact Calls.quiet_of (rLeft_q p s b g _ (HT2.out.1.r.drewN _)))
    | (go_at_call 45; exact Calls.quiet_of (xLeft_q q s b g _ (HT2.out.1.x.drewN _))))
  go_wp2
  go_ret
  exact ⟨rfl, b, g, HT2.out.1.drewN _, below_drewN ((Below.alloc (Below.refl _ _) (Nat.le_trans HT.out.bp (Nat.le_of_lt HT.out.lt.1)) _).trans HT2.out.2) _⟩
set_option maxHeartbeats 1600000 in
set_option maxRecDepth 100000 in
theorem read_k1 (hk : k < 256) (hj : k % 7 = 1) (hn : n < 18446744073709551616) (h : Two B w p q s a e) :
    Calls Try.prog 19 #[.pointer (some ⟨p, 0, none⟩), .pointer (some ⟨q, 0, none⟩), .agg #[.int .u8 k, .int .u64 n, .string o]] w (ReadSaid B p q s w) := by
  have hmod : (k : Int) % 7 = 1 := by omega
  have hle := h.r.le
  have hsm := h.r.small
  have HT := Lib.hid h
  have hk2 : (k : Int) < 256 := by omega
  clear hj h
  obtain ⟨v, f, b, g, hN⟩ : ∃ v f b g, numR s a e 2 = ((v, f), (b, g)) := ⟨_, _, _, _, rfl⟩
  have hv : v < 65536 := by have := numR_lt s a e 2; rw [hN] at this; exact this
  have HN := Lib.hid hN
  clear hN
  go_enter Try.func19, Try.ntmps19
  go_wp2_with (go_at_call 40; refine (rU16_ex p s a e _ v f b g HN.out (HT.out.alloc _).r).mono ?_; rintro r w1 ⟨rfl, hh⟩; have HK1 := Lib.hid hh; clear hh)
  go_wp2_with (go_at_call 39; refine (xNumber_ex q s a e w1 _ 2 rfl (by decide) v f b g HN.out ((HT.out.alloc _).fst HK1.out.1)).mono ?_; rintro r w2 ⟨rfl, hh⟩; have HK2 := Lib.hid hh; clear hh)
  have HT2 := Lib.hid ((HT.out.alloc _).both HK1.out.1 HK1.out.2 HK2.out.1 HK2.out.2)
  obtain ⟨c0, c1, c2, f0, f1, f2⟩ := HT2.out.1.x.cells
  go_quiet (first
    | (go_at_call 17; exact quiet_left (rAt p s b g _ (HT2.out.1.r.drewN _)))
    | (go_at_call 26; exact quiet_left (rErr p s b g _ (HT2.out.1.r.drewN _)))
    | (go_at_call 27; exact Calls.quiet_of (rLeft_q p s b g _ (HT2.out.1.r.drewN _)))
    | (go_at_call 45; exact Calls.quiet_of (xLeft_q q s b g _ (HT2.out.1.x.drewN _))))
  go_wp2
  go_ret
  exact ⟨rfl, b, g, HT2.out.1.drewN _, below_drewN ((Below.alloc (Below.refl _ _) (Nat.le_trans HT.out.bp (Nat.le_of_lt HT.out.lt.1)) _).trans HT2.out.2) _⟩
set_option maxHeartbeats 1600000 in
set_option maxRecDepth 100000 in
theorem read_k2 (hk : k < 256) (hj : k % 7 = 2) (hn : n < 18446744073709551616) (h : Two B w p q s a e) :
    Calls Try.prog 19 #[.pointer (some ⟨p, 0, none⟩), .pointer (some ⟨q, 0, none⟩), .agg #[.int .u8 k, .int .u64 n, .string o]] w (ReadSaid B p q s w) := by
  have hmod : (k : Int) % 7 = 2 := by omega
  have hle := h.r.le
  have hsm := h.r.small
  have HT := Lib.hid h
  have hk2 : (k : Int) < 256 := by omega
  clear hj h
  obtain ⟨v, f, b, g, hN⟩ : ∃ v f b g, numR s a e 4 = ((v, f), (b, g)) := ⟨_, _, _, _, rfl⟩
  have hv : v < 4294967296 := by have := numR_lt s a e 4; rw [hN] at this; exact this
  have HN := Lib.hid hN
  clear hN
  go_enter Try.func19, Try.ntmps19
  go_wp2_with (go_at_call 41; refine (rU32_ex p s a e _ v f b g HN.out (HT.out.alloc _).r).mono ?_; rintro r w1 ⟨rfl, hh⟩; have HK1 := Lib.hid hh; clear hh)
  go_wp2_with (go_at_call 39; refine (xNumber_ex q s a e w1 _ 4 rfl (by decide) v f b g HN.out ((HT.out.alloc _).fst HK1.out.1)).mono ?_; rintro r w2 ⟨rfl, hh⟩; have HK2 := Lib.hid hh; clear hh)
  have HT2 := Lib.hid ((HT.out.alloc _).both HK1.out.1 HK1.out.2 HK2.out.1 HK2.out.2)
  obtain ⟨c0, c1, c2, f0, f1, f2⟩ := HT2.out.1.x.cells
  go_quiet (first
    | (go_at_call 17; exact quiet_left (rAt p s b g _ (HT2.out.1.r.drewN _)))
    | (go_at_call 26; exact quiet_left (rErr p s b g _ (HT2.out.1.r.drewN _)))
    | (go_at_call 27; exact Calls.quiet_of (rLeft_q p s b g _ (HT2.out.1.r.drewN _)))
    | (go_at_call 45; exact Calls.quiet_of (xLeft_q q s b g _ (HT2.out.1.x.drewN _))))
  go_wp2
  go_ret
  exact ⟨rfl, b, g, HT2.out.1.drewN _, below_drewN ((Below.alloc (Below.refl _ _) (Nat.le_trans HT.out.bp (Nat.le_of_lt HT.out.lt.1)) _).trans HT2.out.2) _⟩
set_option maxHeartbeats 1600000 in
set_option maxRecDepth 100000 in
theorem read_k3 (hk : k < 256) (hj : k % 7 = 3) (hn : n < 18446744073709551616) (h : Two B w p q s a e) :
    Calls Try.prog 19 #[.pointer (some ⟨p, 0, none⟩), .pointer (some ⟨q, 0, none⟩), .agg #[.int .u8 k, .int .u64 n, .string o]] w (ReadSaid B p q s w) := by
  have hmod : (k : Int) % 7 = 3 := by omega
  have hle := h.r.le
  have hsm := h.r.small
  have HT := Lib.hid h
  have hk2 : (k : Int) < 256 := by omega
  clear hj h
  obtain ⟨v, f, b, g, hN⟩ : ∃ v f b g, numR s a e 8 = ((v, f), (b, g)) := ⟨_, _, _, _, rfl⟩
  have hv : v < 18446744073709551616 := by have := numR_lt s a e 8; rw [hN] at this; exact this
  have HN := Lib.hid hN
  clear hN
  go_enter Try.func19, Try.ntmps19
  go_wp2_with (go_at_call 25; refine (rU64_ex p s a e _ v f b g HN.out (HT.out.alloc _).r).mono ?_; rintro r w1 ⟨rfl, hh⟩; have HK1 := Lib.hid hh; clear hh)
  go_wp2_with (go_at_call 39; refine (xNumber_ex q s a e w1 _ 8 rfl (by decide) v f b g HN.out ((HT.out.alloc _).fst HK1.out.1)).mono ?_; rintro r w2 ⟨rfl, hh⟩; have HK2 := Lib.hid hh; clear hh)
  have HT2 := Lib.hid ((HT.out.alloc _).both HK1.out.1 HK1.out.2 HK2.out.1 HK2.out.2)
  obtain ⟨c0, c1, c2, f0, f1, f2⟩ := HT2.out.1.x.cells
  go_quiet (first
    | (go_at_call 17; exact quiet_left (rAt p s b g _ (HT2.out.1.r.drewN _)))
    | (go_at_call 26; exact quiet_left (rErr p s b g _ (HT2.out.1.r.drewN _)))
    | (go_at_call 27; exact Calls.quiet_of (rLeft_q p s b g _ (HT2.out.1.r.drewN _)))
    | (go_at_call 45; exact Calls.quiet_of (xLeft_q q s b g _ (HT2.out.1.x.drewN _))))
  go_wp2
  go_ret
  exact ⟨rfl, b, g, HT2.out.1.drewN _, below_drewN ((Below.alloc (Below.refl _ _) (Nat.le_trans HT.out.bp (Nat.le_of_lt HT.out.lt.1)) _).trans HT2.out.2) _⟩
set_option maxHeartbeats 1600000 in
set_option maxRecDepth 100000 in
theorem read_k4 (hk : k < 256) (hj : k % 7 = 4) (hn : n < 18446744073709551616) (h : Two B w p q s a e) :
    Calls Try.prog 19 #[.pointer (some ⟨p, 0, none⟩), .pointer (some ⟨q, 0, none⟩), .agg #[.int .u8 k, .int .u64 n, .string o]] w (ReadSaid B p q s w) := by
  have hmod : (k : Int) % 7 = 4 := by omega
  have hle := h.r.le
  have hsm := h.r.small
  have HT := Lib.hid h
  have hk2 : (k : Int) < 256 := by omega
  clear hj h
  obtain ⟨v, f, b, g, hN⟩ : ∃ v f b g, shortR s a e = ((v, f), (b, g)) := ⟨_, _, _, _, rfl⟩
  have HN := Lib.hid hN
  clear hN
  go_enter Try.func19, Try.ntmps19
  go_wp2_with (go_at_call 16; refine (rShort_ex p s a e _ v f b g HN.out (HT.out.alloc _).r).mono ?_; rintro r w1 ⟨rfl, hh⟩; have HK1 := Lib.hid hh; clear hh)
  go_wp2_with (go_at_call 42; refine (xShort_ex q s a e w1 v f b g HN.out ((HT.out.alloc _).fst HK1.out.1)).mono ?_; rintro r w2 ⟨rfl, hh⟩; have HK2 := Lib.hid hh; clear hh)
  have HT2 := Lib.hid ((HT.out.alloc _).both HK1.out.1 HK1.out.2 HK2.out.1 HK2.out.2)
  obtain ⟨c0, c1, c2, f0, f1, f2⟩ := HT2.out.1.x.cells
  go_quiet (first
    | (go_at_call 17; exact quiet_left (rAt p s b g _ (HT2.out.1.r.drewN _)))
    | (go_at_call 26; exact quiet_left (rErr p s b g _ (HT2.out.1.r.drewN _)))
    | (go_at_call 27; exact Calls.quiet_of (rLeft_q p s b g _ (HT2.out.1.r.drewN _)))
    | (go_at_call 45; exact Calls.quiet_of (xLeft_q q s b g _ (HT2.out.1.x.drewN _))))
  go_wp2
  go_ret
  exact ⟨rfl, b, g, HT2.out.1.drewN _, below_drewN ((Below.alloc (Below.refl _ _) (Nat.le_trans HT.out.bp (Nat.le_of_lt HT.out.lt.1)) _).trans HT2.out.2) _⟩
set_option maxHeartbeats 1600000 in
set_option maxRecDepth 100000 in
theorem read_k5 (hk : k < 256) (hj : k % 7 = 5) (hn : n < 18446744073709551616) (h : Two B w p q s a e) :
    Calls Try.prog 19 #[.pointer (some ⟨p, 0, none⟩), .pointer (some ⟨q, 0, none⟩), .agg #[.int .u8 k, .int .u64 n, .string o]] w (ReadSaid B p q s w) := by
  have hmod : (k : Int) % 7 = 5 := by omega
  have hle := h.r.le
  have hsm := h.r.small
  have HT := Lib.hid h
  have hk2 : (k : Int) < 256 := by omega
  clear hj h
  obtain ⟨m, hm⟩ : ∃ m, IntKind.i64.wrap (n : Int) = m := ⟨_, rfl⟩
  have hm0 : -9223372036854775808 ≤ m ∧ m < 9223372036854775808 := by rw [← hm, IntKind.wrap_i64]; omega
  obtain ⟨v, f, b, g, hN⟩ : ∃ v f b g, rawR s a e m = ((v, f), (b, g)) := ⟨_, _, _, _, rfl⟩
  have HN := Lib.hid hN
  clear hN
  go_enter Try.func19, Try.ntmps19
  go_wp2_with (go_at_call 23; refine (rRaw_ex p s a e _ m hm0.1 hm0.2 v f b g HN.out (HT.out.alloc _).r).mono ?_; rintro r w1 ⟨rfl, hh⟩; have HK1 := Lib.hid hh; have hbx := HT.out.box hh.1 (i := 1) (v := .int .u64 n) (by rw [World.cell?_alloc_mark]; rfl); clear hh)
  go_wp2_with (go_at_call 43; refine (xRaw_ex q s a e w1 m hm0.1 hm0.2 v f b g HN.out ((HT.out.alloc _).fst HK1.out.1)).mono ?_; rintro r w2 ⟨rfl, hh⟩; have HK2 := Lib.hid hh; clear hh)
  have HT2 := Lib.hid ((HT.out.alloc _).both HK1.out.1 HK1.out.2 HK2.out.1 HK2.out.2)
  obtain ⟨c0, c1, c2, f0, f1, f2⟩ := HT2.out.1.x.cells
  go_quiet (first
    | (go_at_call 17; exact quiet_left (rAt p s b g _ (HT2.out.1.r.drewN _)))
    | (go_at_call 26; exact quiet_left (rErr p s b g _ (HT2.out.1.r.drewN _)))
    | (go_at_call 27; exact Calls.quiet_of (rLeft_q p s b g _ (HT2.out.1.r.drewN _)))
    | (go_at_call 45; exact Calls.quiet_of (xLeft_q q s b g _ (HT2.out.1.x.drewN _))))
  go_wp2
  go_ret
  exact ⟨rfl, b, g, HT2.out.1.drewN _, below_drewN ((Below.alloc (Below.refl _ _) (Nat.le_trans HT.out.bp (Nat.le_of_lt HT.out.lt.1)) _).trans HT2.out.2) _⟩
set_option maxHeartbeats 1600000 in
set_option maxRecDepth 100000 in
theorem read_k6 (hk : k < 256) (hj : k % 7 = 6) (hn : n < 18446744073709551616) (h : Two B w p q s a e) :
    Calls Try.prog 19 #[.pointer (some ⟨p, 0, none⟩), .pointer (some ⟨q, 0, none⟩), .agg #[.int .u8 k, .int .u64 n, .string o]] w (ReadSaid B p q s w) := by
  have hmod : (k : Int) % 7 = 6 := by omega
  have hle := h.r.le
  have hsm := h.r.small
  have HT := Lib.hid h
  have hk2 : (k : Int) < 256 := by omega
  clear hj h
  obtain ⟨m, hm⟩ : ∃ m, IntKind.i64.wrap (n : Int) = m := ⟨_, rfl⟩
  have hm0 : -9223372036854775808 ≤ m ∧ m < 9223372036854775808 := by rw [← hm, IntKind.wrap_i64]; omega
  obtain ⟨v, f, b, g, hN⟩ : ∃ v f b g, textR s a e m = ((v, f), (b, g)) := ⟨_, _, _, _, rfl⟩
  have HN := Lib.hid hN
  clear hN
  go_enter Try.func19, Try.ntmps19
  go_wp2_with (go_at_call 24; refine (rText_ex p s a e _ m hm0.1 hm0.2 v f b g HN.out (HT.out.alloc _).r).mono ?_; rintro r w1 ⟨rfl, hh⟩; have HK1 := Lib.hid hh; have hbx := HT.out.box hh.1 (i := 1) (v := .int .u64 n) (by rw [World.cell?_alloc_mark]; rfl); clear hh)
  go_wp2_with (go_at_call 44; refine (xText_ex q s a e w1 m hm0.1 hm0.2 v f b g HN.out ((HT.out.alloc _).fst HK1.out.1)).mono ?_; rintro r w2 ⟨rfl, hh⟩; have HK2 := Lib.hid hh; clear hh)
  have HT2 := Lib.hid ((HT.out.alloc _).both HK1.out.1 HK1.out.2 HK2.out.1 HK2.out.2)
  obtain ⟨c0, c1, c2, f0, f1, f2⟩ := HT2.out.1.x.cells
  go_quiet (first
    | (go_at_call 17; exact quiet_left (rAt p s b g _ (HT2.out.1.r.drewN _)))
    | (go_at_call 26; exact quiet_left (rErr p s b g _ (HT2.out.1.r.drewN _)))
    | (go_at_call 27; exact Calls.quiet_of (rLeft_q p s b g _ (HT2.out.1.r.drewN _)))
    | (go_at_call 45; exact Calls.quiet_of (xLeft_q q s b g _ (HT2.out.1.x.drewN _))))
  go_wp2
  go_ret
  exact ⟨rfl, b, g, HT2.out.1.drewN _, below_drewN ((Below.alloc (Below.refl _ _) (Nat.le_trans HT.out.bp (Nat.le_of_lt HT.out.lt.1)) _).trans HT2.out.2) _⟩
theorem read_any (hk : k < 256) (hn : n < 18446744073709551616) (h : Two B w p q s a e) :
    Calls Try.prog 19 #[.pointer (some ⟨p, 0, none⟩), .pointer (some ⟨q, 0, none⟩), .agg #[.int .u8 k, .int .u64 n, .string o]] w (ReadSaid B p q s w) := by
  rcases (show k % 7 = 0 ∨ k % 7 = 1 ∨ k % 7 = 2 ∨ k % 7 = 3 ∨ k % 7 = 4 ∨ k % 7 = 5 ∨ k % 7 = 6 by omega) with hj | hj | hj | hj | hj | hj | hj
  · exact read_k0 B p q s a e w k n o hk hj hn h
  · exact read_k1 B p q s a e w k n o hk hj hn h
  · exact read_k2 B p q s a e w k n o hk hj hn h
  · exact read_k3 B p q s a e w k n o hk hj hn h
  · exact read_k4 B p q s a e w k n o hk hj hn h
  · exact read_k5 B p q s a e w k n o hk hj hn h
  · exact read_k6 B p q s a e w k n o hk hj hn h
end
end Go.Proofs.Ytbbcgafkpobndaa
