/- Walks of layer 8: entries as they lie; is a path too long? -/
import Derived.Test.YtdjpmgkcgpkkmaaTrW1
set_option linter.unusedVariables false
set_option linter.unusedSimpArgs false
namespace Go.Proofs.Ytdjpmgkcgpkkmaa
open Go.RowKit

/-- Entries that lie in the world. -/
def EnAt (w : World) (a : Option Addr) (l : List (ByteArray × Int)) : Prop :=
  ∀ i (h : i < l.length), ∃ b off, a = some ⟨b, off, none⟩ ∧ b < w.heap.size ∧ w.cell? ⟨b, off + i * 2, none⟩ = some (.string l[i].1) ∧ w.cell? ⟨b, off + i * 2 + 1, none⟩ = some (.int .u32 l[i].2)
theorem EnAt.below {w w' : World} {a : Option Addr} {l : List (ByteArray × Int)} (h : EnAt w a l) (hb : Below w.heap.size w w') : EnAt w' a l := fun i hi => by
  obtain ⟨b, off, h1, h0, h2, h3⟩ := h i hi
  exact ⟨b, off, h1, Nat.lt_of_lt_of_le h0 hb.size, bl_cell hb h2, bl_cell hb h3⟩
/-- Where the first too long path stands. -/
def longAt (l : List (ByteArray × Int)) : Bool := l.any fun e => decide (255 < e.1.size)

theorem tIndexLong (l : List (ByteArray × Int)) (a : Option Addr) (c : Nat) (hl : l.length ≤ maxLen) (w : World) (h : EnAt w a l) :
    Calls Try.prog 59 #[.slice a l.length c, .func (.func 35) #[] #[]] w fun e w' => (∃ k : Int, e = .returned (.int .i64 k) ∧ decide (0 ≤ k) = longAt l) ∧ Below w.heap.size w w' := by
  unfold maxLen at hl
  have HA := Lib.hid h
  clear h
  go_enter Try.func59, Try.ntmps59
  go_wp2
  go_loopw [8] (fun iv wr => ∃ k : Nat, k ≤ l.length ∧ iv = .int .i64 k ∧ (∀ i (h : i < l.length), i < k → ¬ 255 < l[i].1.size) ∧ Below w.heap.size w wr) (fun iv _ => l.length - (intOf iv).toNat)
  case atStart => exact ⟨0, Nat.zero_le _, rfl, fun i _ h => absurd h (Nat.not_lt_zero _), Below.refl _ _⟩
  case round =>
    obtain ⟨k, hk, rfl, hn, hb⟩ := hrel
    have HN := Lib.hid hn; have HB := Lib.hid hb
    clear hn hb
    by_cases hlt : k < l.length
    · obtain ⟨b, off, rfl, _, p1, p2⟩ := HA.out.below HB.out k hlt
      obtain ⟨p, v, hx⟩ : ∃ p v, l[k] = (p, v) := ⟨_, _, rfl⟩
      rw [hx] at p1 p2
      have HX := Lib.hid hx
      have HC := Lib.hid (fun W => tLong p v W)
      clear hx
      by_cases hp : 255 < p.size
      · have hd : decide (255 < (p.size : Int)) = true := by simp; omega
        go_wp2_with (go_at_call 35; (with_reducible refine (HC.out _).mono ?_); rintro e w2 ⟨rfl, hb⟩; have HB2 := Lib.hid (bl_trans HB.out hb); clear hb)
        go_ret
        refine ⟨⟨_, rfl, ?_⟩, HB2.out⟩
        have : longAt l = true := List.any_eq_true.2 ⟨l[k], List.getElem_mem hlt, by rw [HX.out]; simpa using hp⟩
        rw [this]; simp
      · have hd : decide (255 < (p.size : Int)) = false := by simp; omega
        go_wp2_with (go_at_call 35; (with_reducible refine (HC.out _).mono ?_); rintro e w2 ⟨rfl, hb⟩; have HB2 := Lib.hid (bl_trans HB.out hb); clear hb)
        go_roundw
        case rel => exact ⟨k + 1, by omega, by go_num, fun i hi h => by
          rcases Nat.lt_or_ge i k with h1 | h1
          · exact HN.out i hi h1
          · obtain rfl : i = k := by omega
            rw [HX.out]; exact hp, HB2.out⟩
        case measure => simp [intOf]; omega
    · obtain rfl : k = l.length := by omega
      go_wp2
      go_ret
      refine ⟨⟨_, rfl, ?_⟩, HB.out⟩
      have : longAt l = false := by
        unfold longAt
        rw [List.any_eq_false]
        intro x hx
        obtain ⟨i, hi, rfl⟩ := List.mem_iff_getElem.1 hx
        simpa using HN.out i hi hi
      rw [this]; simp
end Go.Proofs.Ytdjpmgkcgpkkmaa
