/- Walks of layer 13: the settings' check. -/
import Derived.Test.YtplegohebfajlaaBlW1
set_option linter.unusedVariables false
set_option linter.unusedSimpArgs false
namespace Go.Proofs.Ytplegohebfajlaa
open Go.RowKit BlMath

/-- What is wrong with settings. -/
def chkR (H P M : Int) : Nat := if H < 1 ∨ 16 < H ∨ P < 1 ∨ 64 < P ∨ M < 0 ∨ 512 < M then 1 else 0
theorem chk_bad {H P M : Int} (h : H < 1 ∨ 16 < H ∨ P < 1 ∨ 64 < P ∨ M < 0 ∨ 512 < M) : chkR H P M = 1 := by unfold chkR; rw [if_pos h]
theorem chk_good {H P M : Int} (h : ¬ (H < 1 ∨ 16 < H ∨ P < 1 ∨ 64 < P ∨ M < 0 ∨ 512 < M)) : chkR H P M = 0 := by unfold chkR; rw [if_neg h]
theorem chk_zero {H P M : Int} (h : chkR H P M = 0) : 1 ≤ H ∧ H ≤ 16 ∧ 1 ≤ P ∧ P ≤ 64 ∧ 0 ≤ M ∧ M ≤ 512 := by
  unfold chkR at h
  split at h <;> omega
set_option maxHeartbeats 1000000 in
set_option maxRecDepth 100000 in
theorem blCheck (H P M S : Int) (w : World) :
    Calls Try.prog 11 #[.agg #[.int .i64 H, .int .i64 P, .int .i64 M, .int .u32 S]] w fun e w' => e = .returned (.int .i64 (chkR H P M)) ∧ Below w.heap.size w w' := by
  by_cases h0 : H < 1
  · have d0 : decide ((H : Int) < 1) = true := by simpa using h0
    have HR := Lib.hid (chk_bad (H := H) (P := P) (M := M) (by omega))
    go_enter Try.func11, Try.ntmps11
    go_wp2
    go_ret
    exact ⟨by rw [HR.out]; rfl, (Below.refl _ _).alloc (Nat.le_refl _) _⟩
  have d0 : decide ((H : Int) < 1) = false := by simpa using h0
  by_cases h1 : 16 < H
  · have d1 : decide ((16 : Int) < H) = true := by simpa using h1
    have HR := Lib.hid (chk_bad (H := H) (P := P) (M := M) (by omega))
    go_enter Try.func11, Try.ntmps11
    go_wp2
    go_ret
    exact ⟨by rw [HR.out]; rfl, (Below.refl _ _).alloc (Nat.le_refl _) _⟩
  have d1 : decide ((16 : Int) < H) = false := by simpa using h1
  by_cases h2 : P < 1
  · have d2 : decide ((P : Int) < 1) = true := by simpa using h2
    have HR := Lib.hid (chk_bad (H := H) (P := P) (M := M) (by omega))
    go_enter Try.func11, Try.ntmps11
    go_wp2
    go_ret
    exact ⟨by rw [HR.out]; rfl, (Below.refl _ _).alloc (Nat.le_refl _) _⟩
  have d2 : decide ((P : Int) < 1) = false := by simpa using h2
  by_cases h3 : 64 < P
  · have d3 : decide ((64 : Int) < P) = true := by simpa using h3
    have HR := Lib.hid (chk_bad (H := H) (P := P) (M := M) (by omega))
    go_enter Try.func11, Try.ntmps11
    go_wp2
    go_ret
    exact ⟨by rw [HR.out]; rfl, (Below.refl _ _).alloc (Nat.le_refl _) _⟩
  have d3 : decide ((64 : Int) < P) = false := by simpa using h3
  by_cases h4 : M < 0
  · have d4 : decide ((M : Int) < 0) = true := by simpa using h4
    have HR := Lib.hid (chk_bad (H := H) (P := P) (M := M) (by omega))
    go_enter Try.func11, Try.ntmps11
    go_wp2
    go_ret
    exact ⟨by rw [HR.out]; rfl, (Below.refl _ _).alloc (Nat.le_refl _) _⟩
  have d4 : decide ((M : Int) < 0) = false := by simpa using h4
  by_cases h5 : 512 < M
  · have d5 : decide ((512 : Int) < M) = true := by simpa using h5
    have HR := Lib.hid (chk_bad (H := H) (P := P) (M := M) (by omega))
    go_enter Try.func11, Try.ntmps11
    go_wp2
    go_ret
    exact ⟨by rw [HR.out]; rfl, (Below.refl _ _).alloc (Nat.le_refl _) _⟩
  have d5 : decide ((512 : Int) < M) = false := by simpa using h5
  have HR := Lib.hid (chk_good (H := H) (P := P) (M := M) (by omega))
  go_enter Try.func11, Try.ntmps11
  go_wp2
  go_ret
  exact ⟨by rw [HR.out]; rfl, (Below.refl _ _).alloc (Nat.le_refl _) _⟩
set_option maxHeartbeats 1000000 in
set_option maxRecDepth 100000 in
theorem xCheck (H P M S : Int) (w : World) :
    Calls Try.prog 12 #[.agg #[.int .i64 H, .int .i64 P, .int .i64 M, .int .u32 S]] w fun e w' => e = .returned (.int .i64 (chkR H P M)) ∧ Below w.heap.size w w' := by
  by_cases h0 : H < 1
  · have d0 : decide ((H : Int) < 1) = true := by simpa using h0
    have HR := Lib.hid (chk_bad (H := H) (P := P) (M := M) (by omega))
    go_enter Try.func12, Try.ntmps12
    go_wp2
    go_ret
    exact ⟨by rw [HR.out]; rfl, (Below.refl _ _).alloc (Nat.le_refl _) _⟩
  have d0 : decide ((H : Int) < 1) = false := by simpa using h0
  by_cases h1 : 16 < H
  · have d1 : decide ((16 : Int) < H) = true := by simpa using h1
    have HR := Lib.hid (chk_bad (H := H) (P := P) (M := M) (by omega))
    go_enter Try.func12, Try.ntmps12
    go_wp2
    go_ret
    exact ⟨by rw [HR.out]; rfl, (Below.refl _ _).alloc (Nat.le_refl _) _⟩
  have d1 : decide ((16 : Int) < H) = false := by simpa using h1
  by_cases h2 : P < 1
  · have d2 : decide ((P : Int) < 1) = true := by simpa using h2
    have HR := Lib.hid (chk_bad (H := H) (P := P) (M := M) (by omega))
    go_enter Try.func12, Try.ntmps12
    go_wp2
    go_ret
    exact ⟨by rw [HR.out]; rfl, (Below.refl _ _).alloc (Nat.le_refl _) _⟩
  have d2 : decide ((P : Int) < 1) = false := by simpa using h2
  by_cases h3 : 64 < P
  · have d3 : decide ((64 : Int) < P) = true := by simpa using h3
    have HR := Lib.hid (chk_bad (H := H) (P := P) (M := M) (by omega))
    go_enter Try.func12, Try.ntmps12
    go_wp2
    go_ret
    exact ⟨by rw [HR.out]; rfl, (Below.refl _ _).alloc (Nat.le_refl _) _⟩
  have d3 : decide ((64 : Int) < P) = false := by simpa using h3
  by_cases h4 : M < 0
  · have d4 : decide ((M : Int) < 0) = true := by simpa using h4
    have HR := Lib.hid (chk_bad (H := H) (P := P) (M := M) (by omega))
    go_enter Try.func12, Try.ntmps12
    go_wp2
    go_ret
    exact ⟨by rw [HR.out]; rfl, (Below.refl _ _).alloc (Nat.le_refl _) _⟩
  have d4 : decide ((M : Int) < 0) = false := by simpa using h4
  by_cases h5 : 512 < M
  · have d5 : decide ((512 : Int) < M) = true := by simpa using h5
    have HR := Lib.hid (chk_bad (H := H) (P := P) (M := M) (by omega))
    go_enter Try.func12, Try.ntmps12
    go_wp2
    go_ret
    exact ⟨by rw [HR.out]; rfl, (Below.refl _ _).alloc (Nat.le_refl _) _⟩
  have d5 : decide ((512 : Int) < M) = false := by simpa using h5
  have HR := Lib.hid (chk_good (H := H) (P := P) (M := M) (by omega))
  go_enter Try.func12, Try.ntmps12
  go_wp2
  go_ret
  exact ⟨by rw [HR.out]; rfl, (Below.refl _ _).alloc (Nat.le_refl _) _⟩
end Go.Proofs.Ytplegohebfajlaa
