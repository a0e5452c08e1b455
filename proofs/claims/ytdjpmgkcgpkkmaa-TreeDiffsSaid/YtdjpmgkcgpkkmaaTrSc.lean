/- Layer 8: lists of entries and of changes compared. -/
import Derived.Test.YtdjpmgkcgpkkmaaTrRw
import Derived.Test.YtdjpmgkcgpkkmaaTrW4
set_option linter.unusedVariables false
set_option linter.unusedSimpArgs false
namespace Go.Proofs.Ytdjpmgkcgpkkmaa
open Go.RowKit TrMath

theorem tEqual (l m : List (ByteArray × Int)) (a b : Option Addr) (c d : Nat) (hl : l.length ≤ maxLen) (w : World) (h : EnAt w a l) (k : EnAt w b m) :
    Calls Try.prog 58 #[.slice a l.length c, .slice b m.length d] w fun e w' => e = .returned (.bool (sameB l m)) ∧ ∃ n, w' = w.drewN n := by
  unfold maxLen at hl
  have HA := Lib.hid h; have HB := Lib.hid k
  clear h k
  by_cases hlm : l.length = m.length
  · have HLM := Lib.hid hlm
    have hn : ((l.length : Int) != m.length) = false := by simp [hlm]
    clear hlm
    go_enter Try.func58, Try.ntmps58
    go_wp2
    go_loopw [13] (fun i wr => ∃ k n : Nat, k ≤ l.length ∧ i = .int .i64 k ∧ (∀ j (h1 : j < l.length) (h2 : j < m.length), j < k → l[j] = m[j]) ∧ wr = w.drewN n) (fun i _ => l.length - (intOf i).toNat)
    case atStart => exact ⟨0, 0, Nat.zero_le _, rfl, fun j _ _ h => absurd h (Nat.not_lt_zero _), rfl⟩
    case round =>
      obtain ⟨k, n, hk, rfl, hall, rfl⟩ := hrel
      have HALL := Lib.hid hall
      clear hall
      by_cases hlt : k < l.length
      · have hlt2 : k < m.length := by have := HLM.out; omega
        have hlt3 : (k : Int) < m.length := by omega
        obtain ⟨b1, o1, rfl, _, p1, p2⟩ := HA.out k hlt
        obtain ⟨b2, o2, rfl, _, q1, q2⟩ := HB.out k hlt2
        obtain ⟨p, v, hx⟩ : ∃ p v, l[k] = (p, v) := ⟨_, _, rfl⟩
        obtain ⟨q, u, hy⟩ : ∃ p v, m[k] = (p, v) := ⟨_, _, rfl⟩
        rw [hx] at p1 p2; rw [hy] at q1 q2
        have HX := Lib.hid hx; have HY := Lib.hid hy
        clear hx hy
        by_cases he : (p, v) = (q, u)
        · cases he
          go_wp2
          go_quiet (fail)
          go_wp2
          go_roundw
          case rel => exact ⟨k + 1, _, by omega, by go_num, fun j h1 h2 hj => by
            rcases Nat.lt_or_ge j k with h3 | h3
            · exact HALL.out j h1 h2 h3
            · obtain rfl : j = k := by omega
              rw [HX.out, HY.out], by first | rfl | (rw [World.drewN_drewN])⟩
          case measure => simp [intOf]; omega
        · have HN := Lib.hid (sameB_at hlt hlt2 (by rw [HX.out, HY.out]; exact he))
          have HE := Lib.hid (ent_ne he)
          clear he
          rcases HE.out with ⟨e1, e2⟩ | e1
          all_goals
            go_wp2
            go_quiet (fail)
            go_wp2
            go_ret
            exact ⟨by rw [HN.out]; rfl, _, by first | rfl | (rw [World.drewN_drewN])⟩
      · have HR := Lib.hid (sameB_all HLM.out fun j h1 h2 => HALL.out j h1 h2 (by omega))
        go_wp2
        go_ret
        exact ⟨by rw [HR.out]; rfl, _, rfl⟩
  · have hn : ((l.length : Int) != m.length) = true := by simp; omega
    have HR := Lib.hid (sameB_len hlm)
    clear hlm
    go_enter Try.func58, Try.ntmps58
    go_wp2
    go_ret
    exact ⟨by rw [HR.out]; rfl, 0, rfl⟩
theorem rSameCh (l : Chs) (a b : Option Addr) (c d : Nat) (hl : l.length ≤ maxLen) (w : World) (h : ChAt w a l) (k : ChAt w b l) :
    Calls Try.prog 31 #[.slice a l.length c, .slice b l.length d] w fun e w' => e = .returned (.bool true) ∧ ∃ n, w' = w.drewN n := by
  unfold maxLen at hl
  have HA := Lib.hid h; have HB := Lib.hid k
  clear h k
  go_enter Try.func31, Try.ntmps31
  go_wp2
  go_loopw [5] (fun i wr => ∃ k n : Nat, k ≤ l.length ∧ i = .int .i64 k ∧ wr = w.drewN n) (fun i _ => l.length - (intOf i).toNat)
  case atStart => exact ⟨0, 0, Nat.zero_le _, rfl, rfl⟩
  case round =>
    obtain ⟨k, n, hk, rfl, rfl⟩ := hrel
    by_cases hlt : k < l.length
    · obtain ⟨b1, o1, rfl, _, p1, p2, p3⟩ := HA.out k hlt
      obtain ⟨b2, o2, rfl, _, q1, q2, q3⟩ := HB.out k hlt
      obtain ⟨p, u, v, hx⟩ : ∃ p u v, l[k] = (p, u, v) := ⟨_, _, _, rfl⟩
      rw [hx] at p1 p2 p3 q1 q2 q3
      clear hx
      go_wp2
      go_quiet (fail)
      go_wp2
      go_roundw
      case rel => exact ⟨k + 1, _, by omega, by go_num, by first | rfl | (rw [World.drewN_drewN])⟩
      case measure => simp [intOf]; omega
    · go_wp2
      go_ret
      exact ⟨rfl, n, rfl⟩
theorem tSame (l m : List (ByteArray × Int)) (a b : Option Addr) (c d : Nat) (hl : l.length ≤ maxLen) (w : World) (h : EnAt w a l) (k : EnAt w b m) :
    Calls Try.prog 33 #[.slice a l.length c, .slice b m.length d] w fun e w' => e = .returned (.bool (sameB l m)) ∧ ∃ n, w' = w.drewN n := by
  have HC := Lib.hid (tEqual l m a b c d hl w h k)
  clear h k
  go_enter Try.func33, Try.ntmps33
  go_wp2_with (go_at_call 58; (with_reducible refine (HC.out).mono ?_); rintro e w1 ⟨rfl, n, rfl⟩)
  go_ret
  exact ⟨rfl, n, rfl⟩
end Go.Proofs.Ytdjpmgkcgpkkmaa
