/- Walks of layer 8: the document's Look. -/
import Derived.Test.YtplegohebfajlaaTrGd
set_option linter.unusedVariables false
set_option linter.unusedSimpArgs false
namespace Go.Proofs.Ytplegohebfajlaa
open Go.RowKit TrMath

theorem look_skip {l : Ents} {p : ByteArray} {k : Nat} (h : k < l.length) (hno : ∀ j (h : j < l.length), j < k → l[j].1 ≠ p) (he : l[k].1 = p) : lookL l p = l[k].2 := by
  induction l generalizing k with
  | nil => simp at h
  | cons e r ih =>
    cases k with
    | zero =>
      have he' : e.1 = p := he
      show (if e.1 = p then e.2 else lookL r p) = e.2
      rw [if_pos he']
    | succ k =>
      have h0 : e.1 ≠ p := hno 0 (by simp) (by omega)
      show (if e.1 = p then e.2 else lookL r p) = _
      rw [if_neg h0]
      exact ih (k := k) (by simpa using h) (fun j hj hk => hno (j + 1) (by simp; omega) (by omega)) he

set_option maxHeartbeats 1000000 in
set_option maxRecDepth 100000 in
theorem rLook (l : Ents) (p : ByteArray) (a : Option Addr) (c : Nat) (hl : l.length ≤ 1099511627776) (w : World) (h : EnAt w a l) :
    Calls Try.prog 22 #[.slice a l.length c, .string p] w fun e w' => e = .returned (.int .u32 (lookL l p)) ∧ Below w.heap.size w w' := by
  have HA := Lib.hid h
  clear h
  go_enter Try.func22, Try.ntmps22
  go_wp2
  go_loopw [5] (fun i wr => ∃ k : Nat, k ≤ l.length ∧ i = .int .i64 k ∧ (∀ j (h1 : j < l.length), j < k → l[j].1 ≠ p) ∧ Below w.heap.size w wr) (fun i _ => l.length - (intOf i).toNat)
  case atStart => exact ⟨0, Nat.zero_le _, rfl, fun j _ h => absurd h (Nat.not_lt_zero _), Below.refl _ _⟩
  case round =>
    obtain ⟨k, hk, rfl, hall, hb⟩ := hrel
    have HALL := Lib.hid hall; have HB := Lib.hid hb
    clear hall hb
    by_cases hlt : k < l.length
    · obtain ⟨b1, o1, rfl, _, p1, p2⟩ := HA.out.below HB.out k hlt
      obtain ⟨q, v, hx⟩ : ∃ q v, l[k] = (q, v) := ⟨_, _, rfl⟩
      rw [hx] at p1 p2
      have HX := Lib.hid hx
      clear hx
      have hk1 : IntKind.i64.wrap ((k : Int) + 1) = (k : Int) + 1 := IntWalk.i64_in _ (by omega)
      by_cases he : q = p
      · have HL := Lib.hid (show lookL l p = v by rw [look_skip hlt HALL.out (by rw [HX.out]; exact he), HX.out])
        have heq : (q.toList == p.toList) = true := by subst he; simp
        clear he
        go_wp2
        go_ret
        exact ⟨by rw [HL.out]; rfl, HB.out⟩
      · have heq : (q.toList == p.toList) = false := by
          rw [beq_eq_false_iff_ne]
          intro e
          rw [ByteArray.toList_eq, ByteArray.toList_eq] at e
          exact he (kB_inj e)
        have HN := Lib.hid he
        clear he
        go_wp2
        go_roundw
        case rel => exact ⟨k + 1, by omega, by go_num, fun j h1 hj => by
          rcases Nat.lt_or_ge j k with h3 | h3
          · exact HALL.out j h1 h3
          · obtain rfl : j = k := by omega
            rw [HX.out]; exact HN.out, HB.out⟩
        case measure => simp [intOf]; omega
    · have HL := Lib.hid (show lookL l p = 0 from lookL_no l p fun e hm => by
        obtain ⟨j, hj, rfl⟩ := List.mem_iff_getElem.1 hm
        exact HALL.out j hj (by omega))
      go_wp2
      go_ret
      exact ⟨by rw [HL.out]; rfl, HB.out⟩
end Go.Proofs.Ytplegohebfajlaa
