/- Walks of layer 2: one call of both readers ('read'), kind by kind. -/
import Derived.Test.YtlnekfdamdfelaaRdW7
set_option linter.unusedVariables false
set_option linter.unusedSimpArgs false
namespace Go.Proofs.Ytlnekfdamdfelaa
open Go.RowKit PackMath

theorem quiet_left {P : Program} {f : FuncId} {args : Array Value} {w : World} {n : Nat} {v : Value}
    (h : Calls P f args (w.drewN n) fun e w' => e = .returned v ∧ w.drewN n = w') : Calls P f args (w.drewN n) fun e w'' => e = .returned v ∧ ∃ m, w'' = w.drewN m :=
  h.mono fun _ _ ⟨he, hm⟩ => ⟨he, n, hm.symm⟩
theorem IsRd.drewN {T : TypeId} {w : World} {p : Nat} {s : ByteArray} {a e : Nat} (h : IsRd T w p s a e) (n : Nat) : IsRd T (w.drewN n) p s a e := ⟨h.cell, h.le, h.small⟩
theorem below_drewN {B : Nat} {a w : World} (h : Below B a w) (n : Nat) : Below B a (w.drewN n) := ⟨h.os, h.tape, h.output, h.size, h.block⟩

section
variable (p : Nat) (s : ByteArray) (a e : Nat) (w : World)
theorem rLeft_q (h : IsRd TR w p s a e) : Calls Try.prog 42 #[.pointer (some ⟨p, 0, none⟩)] w fun r w' => r = .returned (.int .i64 ((s.size : Int) - a)) ∧ ∃ n, w' = w.drewN n := by
  obtain ⟨c0, c1, c2, f0, f1, f2⟩ := h.cells
  have hsub : IntKind.i64.wrap ((s.size : Int) - a) = (s.size : Int) - a := IntWalk.i64_in _ (by have := h.le; have := h.small; omega)
  clear h
  go_enter Try.func42, Try.ntmps42
  go_wp2
  go_quiet (fail)
  go_wp2
  go_ret
  exact ⟨rfl, _, rfl⟩
theorem rU8_ex (v f b g : Nat) (hN : numR s a e 1 = ((v, f), (b, g))) (h : IsRd TR w p s a e) : Calls Try.prog 29 #[.pointer (some ⟨p, 0, none⟩)] w fun r w' => r = .returned (.tuple #[.int .u8 v, .int .i64 f]) ∧ Kept w w' p ∧ IsRd TR w' p s b g := by
  have := rU8 p s a e w h
  rw [hN] at this
  exact this
theorem rU32_ex (v f b g : Nat) (hN : numR s a e 4 = ((v, f), (b, g))) (h : IsRd TR w p s a e) : Calls Try.prog 30 #[.pointer (some ⟨p, 0, none⟩)] w fun r w' => r = .returned (.tuple #[.int .u32 v, .int .i64 f]) ∧ Kept w w' p ∧ IsRd TR w' p s b g := by
  have := rU32 p s a e w h
  rw [hN] at this
  exact this
theorem rRaw_ex (n : Int) (hn0 : -9223372036854775808 ≤ n) (hn1 : n < 9223372036854775808) (t : ByteArray) (f b g : Nat) (hN : rawR s a e n = ((t, f), (b, g))) (h : IsRd TR w p s a e) : Calls Try.prog 31 #[.pointer (some ⟨p, 0, none⟩), .int .i64 n] w fun r w' => r = .returned (.tuple #[.string t, .int .i64 f]) ∧ Kept w w' p ∧ IsRd TR w' p s b g := by
  have := rRaw p s a e w n h hn0 hn1
  rw [hN] at this
  exact this
end
section
variable (B p q : Nat) (s : ByteArray) (a e : Nat) (w : World) (k n : Nat) (o : ByteArray)
end
end Go.Proofs.Ytlnekfdamdfelaa
