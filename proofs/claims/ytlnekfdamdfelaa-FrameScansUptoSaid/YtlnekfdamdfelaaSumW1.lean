/- Walks of layer 1: what one turn does, in the program and in the document's answer; a sum's bytes bit by bit. -/
import Derived.Test.YtlnekfdamdfelaaRows
import Derived.Test.YtlnekfdamdfelaaSumMath
import Derived.Test.YtlnekfdamdfelaaBits
import Derived.WalkKit
import Derived.WalkSpells
import Derived.WalkLawsBesides
set_option linter.unusedVariables false
set_option linter.unusedSimpArgs false
namespace Go.Proofs.Ytlnekfdamdfelaa
open Go.RowKit SumMath

theorem turn_yes {c : Nat} (hc : c < 4294967296) (h : (bits BinOp.and IntKind.u32 (c : Int) 1 != 0) = true) : bits BinOp.xor IntKind.u32 ((c : Int) / 2) 3988292384 = (turn c : Int) := by
  rw [b32_and1 c hc] at h
  have h1 : c % 2 = 1 := by
    have : c % 2 ≠ 0 := by intro e; rw [e] at h; simp at h
    omega
  have e : ((c : Int) / 2) = ((c / 2 : Nat) : Int) := by omega
  rw [e, show (3988292384 : Int) = ((3988292384 : Nat) : Int) from rfl, b32_xor _ _ (by omega) (by decide)]
  unfold turn poly
  rw [if_pos h1]
theorem turn_no {c : Nat} (hc : c < 4294967296) (h : (bits BinOp.and IntKind.u32 (c : Int) 1 != 0) = false) : (c : Int) / 2 = (turn c : Int) := by
  rw [b32_and1 c hc] at h
  have h1 : ¬ c % 2 = 1 := by intro e; rw [e] at h; simp at h
  unfold turn
  rw [if_neg h1]
  omega
theorem turn_yes' {c : Nat} (hc : c < 4294967296) (h : (bits BinOp.and IntKind.u32 (c : Int) 1 == 1) = true) : bits BinOp.xor IntKind.u32 ((c : Int) / 2) 3988292384 = (turn c : Int) :=
  turn_yes hc (by simp at h; rw [h]; rfl)
theorem turn_no' {c : Nat} (hc : c < 4294967296) (h : (bits BinOp.and IntKind.u32 (c : Int) 1 == 1) = false) : (c : Int) / 2 = (turn c : Int) :=
  turn_no hc (by
    rw [b32_and1 c hc] at h ⊢
    have h1 : ¬ c % 2 = 1 := by intro e; rw [e] at h; simp at h
    have h0 : c % 2 = 0 := by omega
    rw [h0]; rfl)

set_option maxHeartbeats 400000 in
theorem turn_any (c : Nat) (hc : c < 4294967296) (w : World) :
    Calls Try.prog 44 #[.int .u32 c] w fun e w' => e = .returned (.int .u32 (turn c)) ∧ w = w' := by
  go_enter Try.func44, Try.ntmps44
  go_wp2
  · go_ret; exact ⟨ret_int (turn_yes hc ‹_›), rfl⟩
  · go_ret; exact ⟨ret_int (turn_no hc ‹_›), rfl⟩

set_option maxHeartbeats 400000 in
theorem refturn_any (c : Nat) (hc : c < 4294967296) (w : World) :
    Calls Try.prog 38 #[.int .u32 c] w fun e w' => e = .returned (.int .u32 (turn c)) ∧ w = w' := by
  go_enter Try.func38, Try.ntmps38
  go_wp2
  · go_ret; exact ⟨ret_int (turn_yes' hc ‹_›), rfl⟩
  · go_ret; exact ⟨ret_int (turn_no' hc ‹_›), rfl⟩

theorem flip_max (s : Nat) (hs : s < 4294967296) : bits BinOp.xor IntKind.u32 IntKind.u32.max (s : Int) = ((flip s : Nat) : Int) := by
  have h := b32_xor 4294967295 s (by decide) hs
  rw [Nat.xor_comm] at h
  exact h

theorem take_byte (t : ByteArray) (k : Nat) (h : k < t.size) : t.data.toList.take (k + 1) = t.data.toList.take k ++ [t[k]] := by
  rw [List.take_succ_eq_append_getElem (by simpa using h)]; rfl

theorem eat_take (c : Nat) (t : ByteArray) (k : Nat) (h : k < t.size) : eat c (t.data.toList.take (k + 1)) = turns 8 (eat c (t.data.toList.take k) ^^^ t[k].toNat) := by
  rw [take_byte t k h, eat_snoc]

set_option maxHeartbeats 400000 in
set_option maxRecDepth 100000 in
theorem refmore_any (s : Nat) (hs : s < 4294967296) (t : ByteArray) (ht : t.size ≤ maxLen) (w : World) :
    Calls Try.prog 27 #[.int .u32 s, .string t] w fun e w' => e = .returned (.int .u32 (more s t.data.toList)) ∧ w = w' := by
  unfold maxLen at ht
  have hf := flip_max s hs
  have hfl := flip_lt hs
  go_enter Try.func27, Try.ntmps27
  go_wp2
  go_loop [5, 6] (fun c i => ∃ k : Nat, k ≤ t.size ∧ i = .int .i64 k ∧ c = .int .u32 (eat (flip s) (t.data.toList.take k))) (fun _ i => t.size - (intOf i).toNat)
  case atStart => exact ⟨0, Nat.zero_le _, rfl, rfl⟩
  case round =>
    obtain ⟨k, hk, rfl, rfl⟩ := hrel
    have hel := eat_lt hfl (t.data.toList.take k)
    have hfin := flip_max _ hel
    by_cases hlt : k < t.size
    · have hb := byte_lt t[k]
      have hx := b32_xor _ _ hel hb
      have hxl := Nat.xor_lt_two_pow (n := 32) hel hb
      have HE := Lib.hid (eat_take (flip s) t k hlt)
      go_wp2
      go_loop [5, 7] (fun c i => ∃ j : Nat, j ≤ 8 ∧ i = .int .i64 j ∧ c = .int .u32 (turns j (eat (flip s) (t.data.toList.take k) ^^^ t[k].toNat))) (fun _ i => 8 - (intOf i).toNat)
      case atStart => exact ⟨0, Nat.zero_le _, rfl, rfl⟩
      case round =>
        obtain ⟨j, hj, rfl, rfl⟩ := hrel
        have htl := turns_lt j hxl
        have HS := Lib.hid (turns_succ' j (eat (flip s) (t.data.toList.take k) ^^^ t[k].toNat))
        by_cases hj8 : j < 8
        · go_wp2_with (go_at_call 38; refine (refturn_any _ htl _).mono ?_; rintro e w' ⟨rfl, rfl⟩)
          go_round
          case rel => exact ⟨j + 1, by omega, by go_num, by rw [HS.out]⟩
          case measure => simp [intOf]; omega
        · obtain rfl : j = 8 := by omega
          go_wp2
          go_round
          case rel => exact ⟨k + 1, by omega, by go_num, by rw [HE.out]⟩
          case measure => simp [intOf]; omega
    · obtain rfl : k = t.size := by omega
      go_wp2
      go_ret
      exact ⟨ret_int (by rw [List.take_of_length_le (by simp)]; rfl), rfl⟩
end Go.Proofs.Ytlnekfdamdfelaa
