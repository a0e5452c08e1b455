/- Walks of layer 13: the places of a path, by any settings. -/
import Derived.Test.YtplegohebfajlaaBlW3
set_option linter.unusedVariables false
set_option linter.unusedSimpArgs false
namespace Go.Proofs.Ytplegohebfajlaa
open Go.RowKit BlMath

/-- The places of a path, by any settings, among any number of bits. -/
def plR (H P M : Int) (S : Nat) (n : Int) (p : ByteArray) : List Nat := if chkR H P M = 0 ∧ 1 ≤ n ∧ n ≤ 4294967295 then pl H.toNat S n.toNat p else []
theorem plR_ok {H N S : Nat} {P M : Int} {p : ByteArray} (hc : chkR H P M = 0) (h1 : 1 ≤ N) (h2 : N ≤ 4294967295) : plR H P M S N p = pl H S N p := by
  unfold plR; rw [if_pos ⟨hc, by omega, by omega⟩]; rfl
theorem plR_no {H P M n : Int} {S : Nat} {p : ByteArray} (h : ¬ (chkR H P M = 0 ∧ 1 ≤ n ∧ n ≤ 4294967295)) : plR H P M S n p = [] := by unfold plR; rw [if_neg h]
theorem chk_one {H P M : Int} (h : chkR H P M ≠ 0) : chkR H P M = 1 := by unfold chkR at h ⊢; split <;> simp_all

set_option maxHeartbeats 1000000 in
set_option maxRecDepth 100000 in
theorem blPlaces_no (H P M n : Int) (S : Nat) (h : ¬ (chkR H P M = 0 ∧ 1 ≤ n ∧ n ≤ 4294967295)) (p : ByteArray) (w : World) :
    Calls Try.prog 13 #[.agg #[.int .i64 H, .int .i64 P, .int .i64 M, .int .u32 S], .string p, .int .i64 n] w (PlSaid [] w) := by
  have HC := Lib.hid (fun W => blCheck H P M S W)
  have HBX := Lib.hid (bl_alloc (Below.refl _ w) (.cells #[.int .i64 H, .int .i64 P, .int .i64 M, .int .u32 S] 27))
  by_cases hc : chkR H P M = 0
  · rw [hc] at HC
    by_cases h1 : n < 1
    · have d1 : decide ((n : Int) < 1) = true := by simpa using h1
      clear h hc
      go_enter Try.func13, Try.ntmps13
      go_wp2_with (go_at_call 11; (with_reducible refine (HC.out _).mono ?_); rintro r w1 ⟨rfl, hb⟩; have HB1 := Lib.hid (HBX.out.trans (hb.mono HBX.out.size)); clear hb)
      go_ret
      exact ⟨_, rfl, World.ownsRow_nil _ _ _ _, HB1.out⟩
    · have h2 : 4294967295 < n := by omega
      have d1 : decide ((n : Int) < 1) = false := by simpa using h1
      have d2 : decide ((4294967295 : Int) < n) = true := by simpa using h2
      clear h hc
      go_enter Try.func13, Try.ntmps13
      go_wp2_with (go_at_call 11; (with_reducible refine (HC.out _).mono ?_); rintro r w1 ⟨rfl, hb⟩; have HB1 := Lib.hid (HBX.out.trans (hb.mono HBX.out.size)); clear hb)
      go_ret
      exact ⟨_, rfl, World.ownsRow_nil _ _ _ _, HB1.out⟩
  · rw [chk_one hc] at HC
    clear h hc
    go_enter Try.func13, Try.ntmps13
    go_wp2_with (go_at_call 11; (with_reducible refine (HC.out _).mono ?_); rintro r w1 ⟨rfl, hb⟩; have HB1 := Lib.hid (HBX.out.trans (hb.mono HBX.out.size)); clear hb)
    go_ret
    exact ⟨_, rfl, World.ownsRow_nil _ _ _ _, HB1.out⟩
theorem blPlaces (H P M n : Int) (S : Nat) (hS : S < 4294967296) (p : ByteArray) (hp : p.size ≤ maxLen) (w : World) :
    Calls Try.prog 13 #[.agg #[.int .i64 H, .int .i64 P, .int .i64 M, .int .u32 S], .string p, .int .i64 n] w (PlSaid (plR H P M S n p) w) := by
  by_cases h : chkR H P M = 0 ∧ 1 ≤ n ∧ n ≤ 4294967295
  · obtain ⟨hc, h1, h2⟩ := h
    have hz := chk_zero hc
    obtain ⟨h0, rfl⟩ := Int.eq_ofNat_of_zero_le (show 0 ≤ H by omega)
    obtain ⟨N, rfl⟩ := Int.eq_ofNat_of_zero_le (show 0 ≤ n by omega)
    rw [plR_ok hc (by omega) (by omega)]
    exact blPlaces_ok h0 N S P M hc (by omega) (by omega) hS p hp w
  · rw [plR_no h]
    exact blPlaces_no H P M n S h p w

set_option maxHeartbeats 1000000 in
set_option maxRecDepth 100000 in
theorem xPlaces_no (H P M n : Int) (S : Nat) (h : ¬ (chkR H P M = 0 ∧ 1 ≤ n ∧ n ≤ 4294967295)) (p : ByteArray) (w : World) :
    Calls Try.prog 14 #[.agg #[.int .i64 H, .int .i64 P, .int .i64 M, .int .u32 S], .string p, .int .i64 n] w (PlSaid [] w) := by
  have HC := Lib.hid (fun W => xCheck H P M S W)
  have HBX := Lib.hid (bl_alloc (Below.refl _ w) (.cells #[.int .i64 H, .int .i64 P, .int .i64 M, .int .u32 S] 27))
  by_cases hc : chkR H P M = 0
  · rw [hc] at HC
    by_cases h1 : n < 1
    · have d1 : decide ((n : Int) < 1) = true := by simpa using h1
      clear h hc
      go_enter Try.func14, Try.ntmps14
      go_wp2_with (go_at_call 12; (with_reducible refine (HC.out _).mono ?_); rintro r w1 ⟨rfl, hb⟩; have HB1 := Lib.hid (HBX.out.trans (hb.mono HBX.out.size)); clear hb)
      go_ret
      exact ⟨_, rfl, World.ownsRow_nil _ _ _ _, HB1.out⟩
    · have h2 : 4294967295 < n := by omega
      have d1 : decide ((n : Int) < 1) = false := by simpa using h1
      have d2 : decide ((4294967295 : Int) < n) = true := by simpa using h2
      clear h hc
      go_enter Try.func14, Try.ntmps14
      go_wp2_with (go_at_call 12; (with_reducible refine (HC.out _).mono ?_); rintro r w1 ⟨rfl, hb⟩; have HB1 := Lib.hid (HBX.out.trans (hb.mono HBX.out.size)); clear hb)
      go_ret
      exact ⟨_, rfl, World.ownsRow_nil _ _ _ _, HB1.out⟩
  · rw [chk_one hc] at HC
    clear h hc
    go_enter Try.func14, Try.ntmps14
    go_wp2_with (go_at_call 12; (with_reducible refine (HC.out _).mono ?_); rintro r w1 ⟨rfl, hb⟩; have HB1 := Lib.hid (HBX.out.trans (hb.mono HBX.out.size)); clear hb)
    go_ret
    exact ⟨_, rfl, World.ownsRow_nil _ _ _ _, HB1.out⟩
theorem xPlaces (H P M n : Int) (S : Nat) (hS : S < 4294967296) (p : ByteArray) (hp : p.size ≤ maxLen) (w : World) :
    Calls Try.prog 14 #[.agg #[.int .i64 H, .int .i64 P, .int .i64 M, .int .u32 S], .string p, .int .i64 n] w (PlSaid (plR H P M S n p) w) := by
  by_cases h : chkR H P M = 0 ∧ 1 ≤ n ∧ n ≤ 4294967295
  · obtain ⟨hc, h1, h2⟩ := h
    have hz := chk_zero hc
    obtain ⟨h0, rfl⟩ := Int.eq_ofNat_of_zero_le (show 0 ≤ H by omega)
    obtain ⟨N, rfl⟩ := Int.eq_ofNat_of_zero_le (show 0 ≤ n by omega)
    rw [plR_ok hc (by omega) (by omega)]
    exact xPlaces_ok h0 N S P M hc (by omega) (by omega) hS p hp w
  · rw [plR_no h]
    exact xPlaces_no H P M n S h p w
theorem blPlaces_at (H N S : Nat) (P M n : Int) (hn : n = (N : Int)) (hc : chkR H P M = 0) (h1 : 1 ≤ N) (h2 : N ≤ 4294967295) (hS : S < 4294967296) (p : ByteArray) (hp : p.size ≤ maxLen) (w : World) :
    Calls Try.prog 13 #[.agg #[.int .i64 H, .int .i64 P, .int .i64 M, .int .u32 S], .string p, .int .i64 n] w (PlSaid (pl H S N p) w) := by
  subst hn
  exact blPlaces_ok H N S P M hc h1 h2 hS p hp w
theorem xPlaces_at (H N S : Nat) (P M n : Int) (hn : n = (N : Int)) (hc : chkR H P M = 0) (h1 : 1 ≤ N) (h2 : N ≤ 4294967295) (hS : S < 4294967296) (p : ByteArray) (hp : p.size ≤ maxLen) (w : World) :
    Calls Try.prog 14 #[.agg #[.int .i64 H, .int .i64 P, .int .i64 M, .int .u32 S], .string p, .int .i64 n] w (PlSaid (pl H S N p) w) := by
  subst hn
  exact xPlaces_ok H N S P M hc h1 h2 hS p hp w
end Go.Proofs.Ytplegohebfajlaa
