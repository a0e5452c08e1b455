/- Walks of layer 2: the readers' numbers of one, two, four, eight bytes; the short numbers. -/
import Derived.Test.YtdjpmgkcgpkkmaaRdW4
import Derived.BigRegion
set_option linter.unusedVariables false
set_option linter.unusedSimpArgs false
namespace Go.Proofs.Ytdjpmgkcgpkkmaa
open Go.RowKit PackMath

theorem rFixed_at (p : Nat) (s : ByteArray) (a e : Nat) (j : Int) (n : Nat) (hj : j = n) (w : World) (h : IsRd TR w p s a e) (hn : n ≤ 8) :
    Calls Try.prog 69 #[.pointer (some ⟨p, 0, none⟩), .int .i64 j] w fun r w' => ∃ v f b g, numR s a e n = ((v, f), (b, g)) ∧ v < 256 ^ n ∧ r = .returned (.tuple #[.int .u64 (v : Nat), .int .i64 (f : Nat)]) ∧ Kept w w' p ∧ IsRd TR w' p s b g := by
  subst hj
  refine (rFixed p s a e n w h hn).mono ?_
  rintro r w1 ⟨rfl, h1, h2⟩
  exact ⟨_, _, _, _, rfl, numR_lt s a e n, rfl, h1, h2⟩

section
variable (p : Nat) (s : ByteArray) (a e : Nat) (w : World)
theorem rU8 (h : IsRd TR w p s a e) : Calls Try.prog 70 #[.pointer (some ⟨p, 0, none⟩)] w fun r w' => r = .returned (.tuple #[.int .u8 (numR s a e 1).1.1, .int .i64 (numR s a e 1).1.2]) ∧ Kept w w' p ∧ IsRd TR w' p s (numR s a e 1).2.1 (numR s a e 1).2.2 := by
  have HR := Lib.hid h; clear h
  go_enter Try.func70, Try.ntmps70
  go_wp2_with (go_at_call 69; refine (rFixed_at p s a e _ 1 rfl w HR.out (by decide)).mono ?_; rintro r w1 ⟨v, f, b, g, hN, hv, rfl, hk⟩; have HN := Lib.hid hN; have HK := Lib.hid hk; clear hN hk; have hv2 : v < 256 := hv; clear hv)
  go_ret2
  rw [HN.out]
  exact ⟨rfl, HK.out⟩
theorem rU16 (h : IsRd TR w p s a e) : Calls Try.prog 55 #[.pointer (some ⟨p, 0, none⟩)] w fun r w' => r = .returned (.tuple #[.int .u16 (numR s a e 2).1.1, .int .i64 (numR s a e 2).1.2]) ∧ Kept w w' p ∧ IsRd TR w' p s (numR s a e 2).2.1 (numR s a e 2).2.2 := by
  have HR := Lib.hid h; clear h
  go_enter Try.func55, Try.ntmps55
  go_wp2_with (go_at_call 69; refine (rFixed_at p s a e _ 2 rfl w HR.out (by decide)).mono ?_; rintro r w1 ⟨v, f, b, g, hN, hv, rfl, hk⟩; have HN := Lib.hid hN; have HK := Lib.hid hk; clear hN hk; have hv2 : v < 65536 := hv; clear hv)
  go_ret2
  rw [HN.out]
  exact ⟨rfl, HK.out⟩
theorem rU32 (h : IsRd TR w p s a e) : Calls Try.prog 72 #[.pointer (some ⟨p, 0, none⟩)] w fun r w' => r = .returned (.tuple #[.int .u32 (numR s a e 4).1.1, .int .i64 (numR s a e 4).1.2]) ∧ Kept w w' p ∧ IsRd TR w' p s (numR s a e 4).2.1 (numR s a e 4).2.2 := by
  have HR := Lib.hid h; clear h
  go_enter Try.func72, Try.ntmps72
  go_wp2_with (go_at_call 69; refine (rFixed_at p s a e _ 4 rfl w HR.out (by decide)).mono ?_; rintro r w1 ⟨v, f, b, g, hN, hv, rfl, hk⟩; have HN := Lib.hid hN; have HK := Lib.hid hk; clear hN hk; have hv2 : v < 4294967296 := hv; clear hv)
  go_ret2
  rw [HN.out]
  exact ⟨rfl, HK.out⟩
end

theorem ret2 {k l : IntKind} {x y u v : Int} (h : x = u) (h2 : y = v) : Ending.returned (.tuple #[.int k x, .int l y]) = .returned (.tuple #[.int k u, .int l v]) := by rw [h, h2]

theorem short_lt {V k : Nat} (n : Nat) (h : V < 2 ^ (7 * k)) : V + n % 128 * 2 ^ (7 * k) < 2 ^ (7 * (k + 1)) := by
  rw [show 7 * (k + 1) = 7 * k + 7 from by omega, Nat.pow_add]
  have h1 : n % 128 * 2 ^ (7 * k) ≤ 127 * 2 ^ (7 * k) := Nat.mul_le_mul_right _ (by omega)
  omega
theorem short_fits (n k : Nat) (hk : k ≤ 9) (h9 : k = 9 → n % 128 ≤ 1) : n % 128 * 2 ^ (7 * k) < 18446744073709551616 := by
  by_cases h : k = 9
  · subst h
    have := h9 rfl
    have h1 : n % 128 * 2 ^ (7 * 9) ≤ 1 * 2 ^ (7 * 9) := Nat.mul_le_mul_right _ this
    exact Nat.lt_of_le_of_lt h1 (by decide)
  · have h1 : n % 128 * 2 ^ (7 * k) ≤ 127 * 2 ^ (7 * 8) := Nat.mul_le_mul (by omega) (Nat.pow_le_pow_right (by decide) (by omega))
    exact Nat.lt_of_le_of_lt h1 (by decide)
theorem low7 (n : Nat) (hn : n < 256) : bits .and .u8 (n : Int) 127 = ((n % 128 : Nat) : Int) := by
  have h := u8_and_nat n 127 hn (by decide)
  rw [show (127 : Nat) = 2 ^ 7 - 1 from rfl, Nat.and_two_pow_sub_one_eq_mod] at h
  exact h
theorem short_or (V n k : Nat) (hk : k ≤ 9) (h9 : k = 9 → n % 128 ≤ 1) (hV : V < 2 ^ (7 * k)) :
    bits .or .u64 (V : Int) (IntKind.u64.wrap (((n % 128 : Nat) : Int) * 2 ^ (7 * k))) = ((V + n % 128 * 2 ^ (7 * k) : Nat) : Int) := by
  have hf := short_fits n k hk h9
  have hV2 : V < 18446744073709551616 := Nat.lt_of_lt_of_le hV (Nat.le_trans (Nat.pow_le_pow_right (by decide) (show 7 * k ≤ 63 by omega)) (by decide))
  have e : ((n % 128 : Nat) : Int) * 2 ^ (7 * k) = ((n % 128 * 2 ^ (7 * k) : Nat) : Int) := by rw [Int.natCast_mul, Int.natCast_pow]; rfl
  rw [e, IntWalk.u64_in _ (by omega)]
  have h := u64_or_nat V (n % 128 * 2 ^ (7 * k)) hV2 hf
  rw [orPow _ _ _ hV] at h
  exact h
theorem short_val (V n k : Nat) (hn : n < 256) (hk : k ≤ 9) (h9 : k = 9 → n % 128 ≤ 1) (hV : V < 2 ^ (7 * k)) :
    bits .or .u64 (V : Int) (IntKind.u64.wrap (IntKind.u64.wrap (bits .and .u8 (n : Int) 127) * 2 ^ (7 * k))) = ((V + n % 128 * 2 ^ (7 * k) : Nat) : Int) := by
  rw [low7 n hn, IntWalk.u64_in (((n % 128 : Nat) : Int)) (by omega)]
  exact short_or V n k hk h9 hV

end Go.Proofs.Ytdjpmgkcgpkkmaa
