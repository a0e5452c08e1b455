/- Walks of layer 8: with how many bytes two paths begin alike. -/
import Derived.Test.YtbhfbdcmamodcaaGreatDoorL03
import Derived.Test.YtbhfbdcmamodcaaGreatDoorL02
import Derived.WalkKit
import Derived.WalkSpells
import Derived.WalkLawsBesides
import Derived.Deep.QuietTactic
import Derived.BigQuiet
set_option linter.unusedVariables false
set_option linter.unusedSimpArgs false
namespace Go.Proofs.YtbhfbdcmamodcaaGreatDoor
open Go.RowKit TrMath
def alk : List UInt8 → List UInt8 → Nat
  | x :: a, y :: b => if x = y then alk a b + 1 else 0
  | _, _ => 0
theorem alk_le : ∀ a b, alk a b ≤ a.length ∧ alk a b ≤ b.length
  | [], _ => by simp [alk]
  | _ :: _, [] => by simp [alk]
  | x :: a, y :: b => by
    have := alk_le a b
    unfold alk
    split <;> simp <;> omega
theorem alk_at : ∀ (a b : List UInt8) (k : Nat), k ≤ a.length → k ≤ b.length → (∀ j (h : j < a.length) (h2 : j < b.length), j < k → a[j] = b[j]) → ((k < a.length → k < b.length → (h : k < a.length) → (h2 : k < b.length) → a[k] ≠ b[k])) → alk a b = k
  | [], b, k, h1, _, _, _ => by simp at h1; simp [alk, h1]
  | _ :: _, [], k, _, h2, _, _ => by simp at h2; simp [alk, h2]
  | x :: a, y :: b, 0, _, _, _, h4 => by
    have := h4 (by simp) (by simp) (by simp) (by simp)
    simp only [List.getElem_cons_zero] at this
    unfold alk
    rw [if_neg this]
  | x :: a, y :: b, k + 1, h1, h2, h3, h4 => by
    have e := h3 0 (by simp) (by simp) (by omega)
    simp only [List.getElem_cons_zero] at e
    unfold alk
    rw [if_pos e, alk_at a b k (by simpa using h1) (by simpa using h2) (fun j hj hj2 hjk => by have := h3 (j + 1) (by simpa using hj) (by simpa using hj2) (by omega); simpa using this) (fun _ _ hj hj2 => by have := h4 (by simpa using hj) (by simpa using hj2) (by simpa using hj) (by simpa using hj2); simpa using this)]
def alkB (p q : ByteArray) : Nat := alk (kB p) (kB q)
theorem alkB_le (p q : ByteArray) : alkB p q ≤ p.size ∧ alkB p q ≤ q.size := by
  have := alk_le (kB p) (kB q)
  unfold alkB
  exact this
theorem alkB_at {p q : ByteArray} {k : Nat} (h1 : k ≤ p.size) (h2 : k ≤ q.size) (h3 : ∀ j (h : j < p.size) (h2 : j < q.size), j < k → p[j] = q[j]) (h4 : ∀ (h : k < p.size) (h2 : k < q.size), p[k] ≠ q[k]) : alkB p q = k :=
  alk_at (kB p) (kB q) k h1 h2 (fun j h h2 hj => h3 j h h2 hj) (fun _ _ h h2 => h4 h h2)
set_option maxHeartbeats 1000000 in
set_option maxRecDepth 100000 in
theorem tAlike (p q : ByteArray) (hp : p.size ≤ maxLen) (hq : q.size ≤ maxLen) (w : World) :
    Calls Tryz.prog 73 #[.string p, .string q] w fun e w' => e = .returned (.int .i64 (alkB p q)) ∧ ∃ n, w' = w.drewN n := by
  unfold maxLen at hp hq
  go_enter Tryz.func73, Tryz.ntmps73
  go_wp2
  go_loopw [5] (fun iv wr => ∃ k n : Nat, k ≤ p.size ∧ k ≤ q.size ∧ iv = .int .i64 k ∧ (∀ j (h : j < p.size) (h2 : j < q.size), j < k → p[j] = q[j]) ∧ wr = w.drewN n) (fun iv _ => p.size - (intOf iv).toNat)
  case atStart => exact ⟨0, 0, Nat.zero_le _, Nat.zero_le _, rfl, fun j _ _ h => absurd h (Nat.not_lt_zero _), rfl⟩
  case round =>
    obtain ⟨k, n, hk, hk2, rfl, hall, rfl⟩ := hrel
    have HALL := Lib.hid hall
    clear hall
    by_cases hlt : k < p.size ∧ k < q.size
    · obtain ⟨h1, h2⟩ := hlt
      have h1z : (k : Int) < p.size := by omega
      have h2z : (k : Int) < q.size := by omega
      have hd1 : decide (k < p.size) = true := by simpa using h1
      have hd2 : decide (k < q.size) = true := by simpa using h2
      have hd3 : decide ((k : Int) < p.size) = true := by simpa using h1z
      have hd4 : decide ((k : Int) < q.size) = true := by simpa using h2z
      by_cases he : p[k] = q[k]
      · have HE := Lib.hid he
        have hez : ((p[k].toNat : Int) == (q[k].toNat : Int)) = true := by rw [he]; simp
        have hez2 : (p[k].toNat == q[k].toNat) = true := by rw [he]; simp
        clear he
        by_cases hqp : q.size < p.size
        all_goals
          go_wp2
          go_quiet (fail)
          go_wp2
          go_roundw
          case rel => exact ⟨k + 1, _, by omega, by omega, by go_num, fun j hj hj2 h => by
            rcases Nat.lt_or_ge j k with h3 | h3
            · exact HALL.out j hj hj2 h3
            · obtain rfl : j = k := by omega
              exact HE.out, by first | rfl | (rw [World.drewN_drewN])⟩
          case measure => simp [intOf]; omega
      · have hnn : ¬ p[k].toNat = q[k].toNat := fun h => he (UInt8.toNat_inj.1 h)
        have hez : ((p[k].toNat : Int) == (q[k].toNat : Int)) = false := by rw [beq_eq_false_iff_ne]; omega
        have hez2 : (p[k].toNat == q[k].toNat) = false := beq_eq_false_iff_ne.2 hnn
        have HR := Lib.hid (alkB_at hk hk2 HALL.out (fun _ _ => he))
        clear he hnn
        by_cases hqp : q.size < p.size
        all_goals
          go_wp2
          go_quiet (fail)
          go_wp2
          go_ret
          exact ⟨by rw [HR.out]; rfl, _, by first | rfl | (rw [World.drewN_drewN])⟩
    · have HR := Lib.hid (alkB_at hk hk2 HALL.out (fun h h2 => absurd ⟨h, h2⟩ hlt))
      by_cases hqp : q.size < p.size
      all_goals
        have hd1 : decide (k < (if q.size < p.size then q.size else p.size)) = false := by simp [hqp]; omega
        have hd2 : decide ((k : Int) < (if q.size < p.size then (q.size : Int) else (p.size : Int))) = false := by simp [hqp]; omega
        simp only [hqp, if_true, if_false] at hd1 hd2
        go_wp2
        go_quiet (fail)
        go_wp2
        go_ret
        exact ⟨by rw [HR.out]; rfl, _, by first | rfl | (rw [World.drewN_drewN])⟩
end Go.Proofs.YtbhfbdcmamodcaaGreatDoor
