/- Walks of layer 8: lists of entries: the same?; is any path too long? -/
import Derived.Test.YtdjpmgkcgpkkmaaTrW3
import Derived.Test.YtdjpmgkcgpkkmaaTrMath
import Derived.Deep.QuietTactic
import Derived.BigQuiet
set_option linter.unusedVariables false
set_option linter.unusedSimpArgs false
namespace Go.Proofs.Ytdjpmgkcgpkkmaa
open Go.RowKit TrMath

theorem tContainsLong (l : List (ByteArray × Int)) (a : Option Addr) (c : Nat) (hl : l.length ≤ maxLen) (w : World) (h : EnAt w a l) :
    Calls Try.prog 34 #[.slice a l.length c, .func (.func 35) #[] #[]] w fun e w' => e = .returned (.bool (longAt l)) ∧ Below w.heap.size w w' := by
  have HI := Lib.hid (tIndexLong l a c hl w h)
  clear h
  go_enter Try.func34, Try.ntmps34
  go_wp2_with (go_at_call 59; (with_reducible refine HI.out.mono ?_); rintro e w2 ⟨⟨k, rfl, hk⟩, hb⟩; have HB := Lib.hid hb; clear hb)
  go_ret
  exact ⟨by rw [← hk]; rfl, HB.out⟩

def sameB (l m : List (ByteArray × Int)) : Bool := decide (l = m)
theorem sameB_self (l : List (ByteArray × Int)) : sameB l l = true := decide_eq_true rfl
theorem sameB_len {l m : List (ByteArray × Int)} (h : l.length ≠ m.length) : sameB l m = false := decide_eq_false fun e => h (by rw [e])
theorem sameB_at {l m : List (ByteArray × Int)} {k : Nat} (h1 : k < l.length) (h2 : k < m.length) (h : l[k] ≠ m[k]) : sameB l m = false := decide_eq_false fun e => h (by subst e; rfl)
theorem sameB_all {l m : List (ByteArray × Int)} (h : l.length = m.length) (hk : ∀ k (h1 : k < l.length) (h2 : k < m.length), l[k] = m[k]) : sameB l m = true := decide_eq_true (List.ext_getElem h fun k h1 h2 => hk k h1 h2)
theorem ent_ne {p q : ByteArray} {v u : Int} (h : (p, v) ≠ (q, u)) : ((p.toList == q.toList) = true ∧ (v == u) = false) ∨ (p.toList == q.toList) = false := by
  by_cases e : p = q
  · subst e
    refine .inl ⟨by simp, ?_⟩
    simp
    intro k
    exact h (by rw [k])
  · refine .inr ?_
    simp only [beq_eq_false_iff_ne, ne_eq, ByteArray.toList_eq]
    intro k
    exact e (kB_inj k)

theorem rSame (l m : List (ByteArray × Int)) (a b : Option Addr) (c d : Nat) (hl : l.length ≤ maxLen) (w : World) (h : EnAt w a l) (k : EnAt w b m) :
    Calls Try.prog 14 #[.slice a l.length c, .slice b m.length d] w fun e w' => e = .returned (.bool (sameB l m)) ∧ ∃ n, w' = w.drewN n := by
  unfold maxLen at hl
  have HA := Lib.hid h; have HB := Lib.hid k
  clear h k
  by_cases hlm : l.length = m.length
  · have HLM := Lib.hid hlm
    have hn : ((l.length : Int) != m.length) = false := by simp [hlm]
    clear hlm
    go_enter Try.func14, Try.ntmps14
    go_wp2
    go_loopw [5] (fun i wr => ∃ k n : Nat, k ≤ l.length ∧ i = .int .i64 k ∧ (∀ j (h1 : j < l.length) (h2 : j < m.length), j < k → l[j] = m[j]) ∧ wr = w.drewN n) (fun i _ => l.length - (intOf i).toNat)
    case atStart => exact ⟨0, 0, Nat.zero_le _, rfl, fun j _ _ h => absurd h (Nat.not_lt_zero _), rfl⟩
    case round =>
      obtain ⟨k, n, hk, rfl, hall, rfl⟩ := hrel
      have HALL := Lib.hid hall
      clear hall
      by_cases hlt : k < l.length
      · have hlt2 : k < m.length := by have := HLM.out; omega
        have hlt3 : (k : Int) < m.length := by omega
        obtain ⟨b1, o1, rfl, _, p1, p2⟩ := HA.out k hlt
        obtain ⟨b2, o2, rfl, _, q1, q2⟩ := HB.out k hlt2
        obtain ⟨p, v, hx⟩ : ∃ p v, l[k] = (p, v) := ⟨_, _, rfl⟩
        obtain ⟨q, u, hy⟩ : ∃ p v, m[k] = (p, v) := ⟨_, _, rfl⟩
        rw [hx] at p1 p2; rw [hy] at q1 q2
        have HX := Lib.hid hx; have HY := Lib.hid hy
        clear hx hy
        by_cases he : (p, v) = (q, u)
        · cases he
          go_wp2
          go_quiet (fail)
          go_wp2
          go_roundw
          case rel => exact ⟨k + 1, _, by omega, by go_num, fun j h1 h2 hj => by
            rcases Nat.lt_or_ge j k with h3 | h3
            · exact HALL.out j h1 h2 h3
            · obtain rfl : j = k := by omega
              rw [HX.out, HY.out], by first | rfl | (rw [World.drewN_drewN])⟩
          case measure => simp [intOf]; omega
        · have HN := Lib.hid (sameB_at hlt hlt2 (by rw [HX.out, HY.out]; exact he))
          have HE := Lib.hid (ent_ne he)
          clear he
          rcases HE.out with ⟨e1, e2⟩ | e1
          all_goals
            go_wp2
            go_quiet (fail)
            go_wp2
            go_ret
            exact ⟨by rw [HN.out]; rfl, _, by first | rfl | (rw [World.drewN_drewN])⟩
      · have HR := Lib.hid (sameB_all HLM.out fun j h1 h2 => HALL.out j h1 h2 (by omega))
        go_wp2
        go_ret
        exact ⟨by rw [HR.out]; rfl, _, rfl⟩
  · have hn : ((l.length : Int) != m.length) = true := by simp; omega
    have HR := Lib.hid (sameB_len hlm)
    clear hlm
    go_enter Try.func14, Try.ntmps14
    go_wp2
    go_ret
    exact ⟨by rw [HR.out]; rfl, 0, rfl⟩
end Go.Proofs.Ytdjpmgkcgpkkmaa
