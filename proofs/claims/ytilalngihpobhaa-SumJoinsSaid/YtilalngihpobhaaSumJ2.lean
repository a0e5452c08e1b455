/- Walks of layer 1: what a table of images makes of a number, in the program and in the document's answer. -/
import Derived.Test.YtilalngihpobhaaSumW4
import Derived.Test.YtilalngihpobhaaSumJ1
import Derived.Deep.QuietTactic
import Derived.BigQuiet
namespace Go.Proofs.Ytilalngihpobhaa
open Go.RowKit SumMath

theorem bit_val (c k : Nat) (hc : c < 4294967296) : bits BinOp.and IntKind.u32 ((c : Int) / 2 ^ k) 1 = ((c / 2 ^ k % 2 : Nat) : Int) := by
  have e : ((c : Int) / 2 ^ k) = ((c / 2 ^ k : Nat) : Int) := by simp
  rw [e, b32_and1 _ (Nat.lt_of_le_of_lt (Nat.div_le_self _ _) hc)]
theorem thru_yes {f : Nat → Nat} {c k fk : Nat} (hf : f k = fk) (h1 : thru f c k < 4294967296) (h2 : fk < 4294967296) (hb : c / 2 ^ k % 2 = 1) :
    bits BinOp.xor IntKind.u32 ((thru f c k : Nat) : Int) (fk : Int) = ((thru f c (k + 1) : Nat) : Int) := by
  rw [b32_xor _ _ h1 h2]
  conv => rhs; unfold thru
  rw [if_pos hb, hf]
theorem thru_no {f : Nat → Nat} {c k : Nat} (hb : ¬ c / 2 ^ k % 2 = 1) : thru f c (k + 1) = thru f c k := by
  conv => lhs; unfold thru
  rw [if_neg hb]

set_option maxHeartbeats 1000000 in
set_option maxRecDepth 100000 in
theorem through_any (a : Option Addr) (cap b off : Nat) (ha : a = some ⟨b, off, none⟩) (c : Nat) (hc : c < 4294967296) (f : Nat → Nat) (hf : ∀ i, i < 32 → f i < 4294967296) (w : World)
    (hT : ∀ i, i < 32 → w.cell? ⟨b, off + i, none⟩ = some (.int .u32 (f i : Nat))) :
    Calls Try.prog 21 #[.slice a 32 cap, .int .u32 c] w fun e w' => e = .returned (.int .u32 (thru f c 32 : Nat)) ∧ w = w' := by
  subst ha
  have HT := Lib.hid hT
  have HF := Lib.hid hf
  clear hT hf
  go_enter Try.func21, Try.ntmps21
  go_wp2
  go_loop [5, 6] (fun s i => ∃ k : Nat, k ≤ 32 ∧ i = .int .i64 k ∧ s = .int .u32 (thru f c k : Nat)) (fun _ i => 32 - (intOf i).toNat)
  case atStart => exact ⟨0, Nat.zero_le _, rfl, rfl⟩
  case round =>
    obtain ⟨k, hk, rfl, rfl⟩ := hrel
    by_cases hlt : k < 32
    · have hki : decide ((k : Int) < 32) = true := by simp; omega
      have hcell := HT.out k hlt
      have hfk := HF.out k hlt
      have htl := thru_lt (f := f) c k (fun i hi => HF.out i (by omega))
      obtain ⟨fk, he⟩ : ∃ fk, f k = fk := ⟨_, rfl⟩
      rw [he] at hcell hfk
      have HE := Lib.hid he
      clear he
      by_cases hb : c / 2 ^ k % 2 = 1
      · have ht : (bits BinOp.and IntKind.u32 ((c : Int) / 2 ^ k) 1 == 1) = true := by rw [bit_val c k hc, hb]; rfl
        have hx := thru_yes HE.out htl hfk hb
        clear hb
        go_wp2
        go_round
        case rel => exact ⟨k + 1, by omega, by go_num, rfl⟩
        case measure => simp [intOf]; omega
      · have ht : (bits BinOp.and IntKind.u32 ((c : Int) / 2 ^ k) 1 == 1) = false := by
          rw [bit_val c k hc, show c / 2 ^ k % 2 = 0 from by omega]; rfl
        have HX := Lib.hid (thru_no (f := f) hb)
        clear hb
        go_wp2
        go_round
        case rel => exact ⟨k + 1, by omega, by go_num, by rw [HX.out]⟩
        case measure => simp [intOf]; omega
    · obtain rfl : k = 32 := by omega
      go_wp2
      go_ret
      exact ⟨rfl, rfl⟩

set_option maxHeartbeats 1000000 in
set_option maxRecDepth 100000 in
theorem of_any (b : Nat) (c : Nat) (hc : c < 4294967296) (f : Nat → Nat) (hf : ∀ i, i < 32 → f i < 4294967296) (w : World)
    (hT : ∀ i, i < 32 → w.cell? ⟨b, i, none⟩ = some (.int .u32 (f i : Nat))) :
    Calls Try.prog 20 #[.pointer (some ⟨b, 0, none⟩), .int .u32 c] w fun e w' => e = .returned (.int .u32 (thru f c 32 : Nat)) ∧ ∃ n, w' = w.drewN n := by
  have HT := Lib.hid hT
  have HF := Lib.hid hf
  clear hT hf
  go_enter Try.func20, Try.ntmps20
  go_wp2
  go_loopw [5, 9] (fun s i wr => ∃ k : Nat, k ≤ 32 ∧ i = .int .i64 k ∧ s = .int .u32 (thru f c k : Nat) ∧ ∃ n, wr = w.drewN n) (fun _ i _ => 32 - (intOf i).toNat)
  case atStart => exact ⟨0, Nat.zero_le _, rfl, rfl, 0, rfl⟩
  case round =>
    obtain ⟨k, hk, rfl, rfl, n, rfl⟩ := hrel
    by_cases hlt : k < 32
    · have hki : decide ((k : Int) < 32) = true := by simp; omega
      have hki2 : (k : Int) < 32 := by omega
      have hcell := HT.out k hlt
      have hfk := HF.out k hlt
      have htl := thru_lt (f := f) c k (fun i hi => HF.out i (by omega))
      obtain ⟨fk, he⟩ : ∃ fk, f k = fk := ⟨_, rfl⟩
      rw [he] at hcell hfk
      have HE := Lib.hid he
      clear he
      by_cases hb : c / 2 ^ k % 2 = 1
      · have ht : (bits BinOp.and IntKind.u32 ((c : Int) / 2 ^ k) 1 != 0) = true := by rw [bit_val c k hc, hb]; rfl
        have hx := thru_yes HE.out htl hfk hb
        clear hb
        go_wp2
        go_quiet (fail)
        go_wp2
        go_roundw
        case rel => exact ⟨k + 1, by omega, by go_num, rfl, _, rfl⟩
        case measure => simp [intOf]; omega
      · have ht : (bits BinOp.and IntKind.u32 ((c : Int) / 2 ^ k) 1 != 0) = false := by
          rw [bit_val c k hc, show c / 2 ^ k % 2 = 0 from by omega]; rfl
        have HX := Lib.hid (thru_no (f := f) hb)
        clear hb
        go_wp2
        go_quiet (fail)
        go_wp2
        go_roundw
        case rel => exact ⟨k + 1, by omega, by go_num, by rw [HX.out], _, rfl⟩
        case measure => simp [intOf]; omega
    · obtain rfl : k = 32 := by omega
      go_wp2
      go_ret
      exact ⟨rfl, _, rfl⟩
end Go.Proofs.Ytilalngihpobhaa
