/- Walks of layer 2: one call of both readers ('read'), kind by kind. -/
import Derived.Test.YtdjpmgkcgpkkmaaRdW7
set_option linter.unusedVariables false
set_option linter.unusedSimpArgs false
namespace Go.Proofs.Ytdjpmgkcgpkkmaa
open Go.RowKit PackMath

theorem quiet_left {P : Program} {f : FuncId} {args : Array Value} {w : World} {n : Nat} {v : Value}
    (h : Calls P f args (w.drewN n) fun e w' => e = .returned v ∧ w.drewN n = w') : Calls P f args (w.drewN n) fun e w'' => e = .returned v ∧ ∃ m, w'' = w.drewN m :=
  h.mono fun _ _ ⟨he, hm⟩ => ⟨he, n, hm.symm⟩
theorem IsRd.drewN {T : TypeId} {w : World} {p : Nat} {s : ByteArray} {a e : Nat} (h : IsRd T w p s a e) (n : Nat) : IsRd T (w.drewN n) p s a e := ⟨h.cell, h.le, h.small⟩
theorem below_drewN {B : Nat} {a w : World} (h : Below B a w) (n : Nat) : Below B a (w.drewN n) := ⟨h.os, h.tape, h.output, h.size, h.block⟩

/-- Both readers, at one text, at one place, with one error. -/
structure Two (B : Nat) (w : World) (p q : Nat) (s : ByteArray) (a e : Nat) : Prop where
  r : IsRd TR w p s a e
  x : IsRd TX w q s a e
  ne : p ≠ q
  bp : B ≤ p
  bq : B ≤ q
theorem Two.lt {B : Nat} {w : World} {p q : Nat} {s : ByteArray} {a e : Nat} (h : Two B w p q s a e) : p < w.heap.size ∧ q < w.heap.size :=
  ⟨(Array.getElem?_eq_some_iff.1 h.r.cell).1, (Array.getElem?_eq_some_iff.1 h.x.cell).1⟩
theorem Two.below {B : Nat} {w w' : World} {p q : Nat} {s : ByteArray} {a e : Nat} (h : Two B w p q s a e) (k : Below w.heap.size w w') : Two B w' p q s a e :=
  ⟨h.r.below k, h.x.below k, h.ne, h.bp, h.bq⟩
theorem Two.alloc {B : Nat} {w : World} {p q : Nat} {s : ByteArray} {a e : Nat} (h : Two B w p q s a e) (o : Obj) : Two B (w.alloc o) p q s a e := h.below (bl_alloc (Below.refl _ _) o)
theorem Two.drewN {B : Nat} {w : World} {p q : Nat} {s : ByteArray} {a e : Nat} (h : Two B w p q s a e) (n : Nat) : Two B (w.drewN n) p q s a e := ⟨h.r.drewN n, h.x.drewN n, h.ne, h.bp, h.bq⟩
theorem Two.fst {B : Nat} {w w1 : World} {p q : Nat} {s : ByteArray} {a e : Nat} (h : Two B w p q s a e) (k : Kept w w1 p) : IsRd TX w1 q s a e := h.x.keep k (Ne.symm h.ne)
theorem Two.both {B : Nat} {w w1 w2 : World} {p q : Nat} {s : ByteArray} {a e b g : Nat} (h : Two B w p q s a e) (k : Kept w w1 p) (r : IsRd TR w1 p s b g) (k2 : Kept w1 w2 q) (x : IsRd TX w2 q s b g) :
    Two B w2 p q s b g ∧ Below B w w2 :=
  ⟨⟨r.keep k2 h.ne, x, h.ne, h.bp, h.bq⟩, (k.below h.bp (Nat.le_trans h.bp (Nat.le_of_lt h.lt.1))).trans (k2.below h.bq (Nat.le_trans h.bp (Nat.le_trans (Nat.le_of_lt h.lt.1) k.size)))⟩
theorem Two.box {B : Nat} {w w1 : World} {p q : Nat} {s : ByteArray} {a e : Nat} (h : Two B w p q s a e) {o : Obj} (k : Kept (w.alloc o) w1 p) {i : Nat} {v : Value} (hc : (w.alloc o).cell? ⟨w.heap.size, i, none⟩ = some v) : w1.cell? ⟨w.heap.size, i, none⟩ = some v := by
  rw [World.cell?_of_block (k.block w.heap.size (by simp) (Nat.ne_of_gt h.lt.1))]
  exact hc

section
variable (p : Nat) (s : ByteArray) (a e : Nat) (w : World)
theorem rLeft_q (h : IsRd TR w p s a e) : Calls Try.prog 73 #[.pointer (some ⟨p, 0, none⟩)] w fun r w' => r = .returned (.int .i64 ((s.size : Int) - a)) ∧ ∃ n, w' = w.drewN n := by
  obtain ⟨c0, c1, c2, f0, f1, f2⟩ := h.cells
  have hsub : IntKind.i64.wrap ((s.size : Int) - a) = (s.size : Int) - a := IntWalk.i64_in _ (by have := h.le; have := h.small; omega)
  clear h
  go_enter Try.func73, Try.ntmps73
  go_wp2
  go_quiet (fail)
  go_wp2
  go_ret
  exact ⟨rfl, _, rfl⟩
theorem xLeft_q (h : IsRd TX w p s a e) : Calls Try.prog 79 #[.pointer (some ⟨p, 0, none⟩)] w fun r w' => r = .returned (.int .i64 ((s.size : Int) - a)) ∧ ∃ n, w' = w.drewN n := by
  obtain ⟨c0, c1, c2, f0, f1, f2⟩ := h.cells
  have hsub : IntKind.i64.wrap ((s.size : Int) - a) = (s.size : Int) - a := IntWalk.i64_in _ (by have := h.le; have := h.small; omega)
  clear h
  go_enter Try.func79, Try.ntmps79
  go_wp2
  go_quiet (fail)
  go_wp2
  go_ret
  exact ⟨rfl, _, rfl⟩
theorem rU8_ex (v f b g : Nat) (hN : numR s a e 1 = ((v, f), (b, g))) (h : IsRd TR w p s a e) : Calls Try.prog 70 #[.pointer (some ⟨p, 0, none⟩)] w fun r w' => r = .returned (.tuple #[.int .u8 v, .int .i64 f]) ∧ Kept w w' p ∧ IsRd TR w' p s b g := by
  have := rU8 p s a e w h
  rw [hN] at this
  exact this
theorem rU16_ex (v f b g : Nat) (hN : numR s a e 2 = ((v, f), (b, g))) (h : IsRd TR w p s a e) : Calls Try.prog 55 #[.pointer (some ⟨p, 0, none⟩)] w fun r w' => r = .returned (.tuple #[.int .u16 v, .int .i64 f]) ∧ Kept w w' p ∧ IsRd TR w' p s b g := by
  have := rU16 p s a e w h
  rw [hN] at this
  exact this
theorem rU32_ex (v f b g : Nat) (hN : numR s a e 4 = ((v, f), (b, g))) (h : IsRd TR w p s a e) : Calls Try.prog 72 #[.pointer (some ⟨p, 0, none⟩)] w fun r w' => r = .returned (.tuple #[.int .u32 v, .int .i64 f]) ∧ Kept w w' p ∧ IsRd TR w' p s b g := by
  have := rU32 p s a e w h
  rw [hN] at this
  exact this
theorem xNumber_ex (j : Int) (n : Nat) (hj : j = n) (hn : n ≤ 8) (v f b g : Nat) (hN : numR s a e n = ((v, f), (b, g))) (h : IsRd TX w p s a e) : Calls Try.prog 64 #[.pointer (some ⟨p, 0, none⟩), .int .i64 j] w fun r w' => r = .returned (.tuple #[.int .u64 v, .int .i64 f]) ∧ Kept w w' p ∧ IsRd TX w' p s b g := by
  subst hj
  have := xNumber p s a e n w h hn
  rw [hN] at this
  exact this
theorem rRaw_ex (n : Int) (hn0 : -9223372036854775808 ≤ n) (hn1 : n < 9223372036854775808) (t : ByteArray) (f b g : Nat) (hN : rawR s a e n = ((t, f), (b, g))) (h : IsRd TR w p s a e) : Calls Try.prog 71 #[.pointer (some ⟨p, 0, none⟩), .int .i64 n] w fun r w' => r = .returned (.tuple #[.string t, .int .i64 f]) ∧ Kept w w' p ∧ IsRd TR w' p s b g := by
  have := rRaw p s a e w n h hn0 hn1
  rw [hN] at this
  exact this
theorem xRaw_ex (n : Int) (hn0 : -9223372036854775808 ≤ n) (hn1 : n < 9223372036854775808) (t : ByteArray) (f b g : Nat) (hN : rawR s a e n = ((t, f), (b, g))) (h : IsRd TX w p s a e) : Calls Try.prog 65 #[.pointer (some ⟨p, 0, none⟩), .int .i64 n] w fun r w' => r = .returned (.tuple #[.string t, .int .i64 f]) ∧ Kept w w' p ∧ IsRd TX w' p s b g := by
  have := xRaw p s a e w n h hn0 hn1
  rw [hN] at this
  exact this
end
section
variable (B p q : Nat) (s : ByteArray) (a e : Nat) (w : World) (k n : Nat) (o : ByteArray)
/-- What one call of both readers leaves. -/
def ReadSaid (B p q : Nat) (s : ByteArray) (w : World) (r : Ending) (w' : World) : Prop := r = .returned (.bool true) ∧ ∃ a' e', Two B w' p q s a' e' ∧ Below B w w'
end
end Go.Proofs.Ytdjpmgkcgpkkmaa
