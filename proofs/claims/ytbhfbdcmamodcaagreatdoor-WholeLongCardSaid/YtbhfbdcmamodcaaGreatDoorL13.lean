/- The whole: the names that the simulated disk takes; The whole: a good name of the simulated disk. -/
import Derived.Test.YtbhfbdcmamodcaaGreatDoorL05
import Derived.Lib.ConvBytes
import Derived.Lib.AtoiErrMem
set_option linter.unusedVariables false
set_option linter.unusedSimpArgs false
namespace Go.Proofs.YtbhfbdcmamodcaaGreatDoor
open Go.RowKit
def byV (b : UInt8) : List Value := [.int .u8 (b.toNat : Nat)]
theorem byW : Wide byV 1 := fun _ => rfl
theorem by_cells {w : World} {a : Option Addr} {l : List UInt8} (h : CellsAt w a (l.flatMap byV)) {k : Nat} (hk : k < l.length) :
    ∃ b off, a = some ⟨b, off, none⟩ ∧ b < w.heap.size ∧ w.cell? ⟨b, off + k, none⟩ = some (.int .u8 (l[k].toNat : Nat)) := by
  obtain ⟨b, off, h1, h2, h3⟩ := h.elem byW hk (by decide)
  exact ⟨b, off, h1, h2, by have := h3 0 _ rfl; rwa [Nat.mul_one, Nat.add_zero] at this⟩
theorem by_flat (l : List UInt8) : l.flatMap byV = l.map fun b => Value.int .u8 (b.toNat : Nat) := by
  induction l with
  | nil => rfl
  | cons x r ih => rw [List.flatMap_cons, ih]; rfl
theorem by_new (w : World) (e : TypeId) (s : ByteArray) : CellsAt (Lib.bytesWorld w e s) (some ⟨w.heap.size, 0, none⟩) (s.data.toList.flatMap byV) := by
  intro j v hj
  rw [by_flat, List.getElem?_map] at hj
  have hlt : j < s.size := by
    rcases Nat.lt_or_ge j s.data.toList.length with h | h
    · rwa [Array.length_toList] at h
    · rw [List.getElem?_eq_none h] at hj; cases hj
  refine ⟨_, _, rfl, by rw [Lib.bytesWorld_size]; omega, ?_⟩
  rw [Nat.zero_add, Lib.bytesWorld_cell w e s j hlt, ← hj]
  have hl2 : j < s.data.toList.length := by rw [Array.length_toList]; exact hlt
  rw [List.getD_eq_getElem?_getD, List.getElem?_eq_getElem hl2]
  rfl
def outB (b : UInt8) : Bool := decide (b.toNat < 33) || decide (126 < b.toNat)
theorem sOut (b : UInt8) (w : World) : Calls Tryz.prog 121 #[.int .u8 (b.toNat : Nat)] w fun e w' => e = .returned (.bool (outB b)) ∧ Below w.heap.size w w' := by
  unfold outB
  go_enter Tryz.func121, Tryz.ntmps121
  by_cases h1 : b.toNat < 33
  · have d1 : decide (((b.toNat : Nat) : Int) < 33) = true := by simp; omega
    go_wp2
    go_ret
    exact ⟨by simp [h1], Below.refl _ _⟩
  · have d1 : decide (((b.toNat : Nat) : Int) < 33) = false := by simp; omega
    have d2 : decide (((b.toNat : Nat) : Int) > 126) = decide (126 < b.toNat) := by simp; omega
    go_wp2
    go_ret
    exact ⟨by simp [h1], Below.refl _ _⟩
set_option maxHeartbeats 1000000 in
set_option maxRecDepth 100000 in
theorem sOutIdx (P : UInt8 → Bool) (l : List UInt8) (a : Option Addr) (c : Nat) (hl : l.length ≤ maxLen) (w : World) (h : CellsAt w a (l.flatMap byV))
    (hc : ∀ x ∈ l, ∀ W, Below w.heap.size w W → Calls Tryz.prog 121 #[.int .u8 (x.toNat : Nat)] W fun e w' => e = .returned (.bool (P x)) ∧ Below W.heap.size W w') :
    Calls Tryz.prog 182 #[.slice a l.length c, .func (.func 121) #[] #[]] w fun e w' => (∃ k : Int, e = .returned (.int .i64 k) ∧ decide (0 ≤ k) = l.any P) ∧ Below w.heap.size w w' := by
  unfold maxLen at hl
  have HA := Lib.hid h
  have HC := Lib.hid hc
  clear h hc
  go_enter Tryz.func182, Tryz.ntmps182
  go_wp2
  go_loopw [8] (fun iv wr => ∃ k : Nat, k ≤ l.length ∧ iv = .int .i64 k ∧ (∀ i (h : i < l.length), i < k → P l[i] = false) ∧ Below w.heap.size w wr) (fun iv _ => l.length - (intOf iv).toNat)
  case atStart => exact ⟨0, Nat.zero_le _, rfl, fun i _ h => absurd h (Nat.not_lt_zero _), Below.refl _ _⟩
  case round =>
    obtain ⟨k, hk, rfl, hn, hb⟩ := hrel
    have HN := Lib.hid hn; have HB := Lib.hid hb
    clear hn hb
    by_cases hlt : k < l.length
    · obtain ⟨b, off, rfl, _, p1⟩ := by_cells (HA.out.below HB.out) hlt
      have HCx := Lib.hid (fun W hW => HC.out l[k] (List.getElem_mem hlt) W hW)
      obtain ⟨x, hx⟩ : ∃ x, l[k] = x := ⟨_, rfl⟩
      rw [hx] at p1 HCx
      have HX := Lib.hid hx
      clear hx
      obtain ⟨r, hr⟩ : ∃ r, P x = r := ⟨_, rfl⟩
      rw [hr] at HCx
      have HR := Lib.hid hr
      clear hr
      cases r with
      | true =>
        go_wp2_with (go_at_call 121; (with_reducible refine (HCx.out _ HB.out).mono ?_); rintro e w2 ⟨rfl, hb⟩; have HB2 := Lib.hid (bl_trans HB.out hb); clear hb)
        go_ret
        refine ⟨⟨_, rfl, ?_⟩, HB2.out⟩
        have : l.any P = true := List.any_eq_true.2 ⟨l[k], List.getElem_mem hlt, by rw [HX.out]; exact HR.out⟩
        rw [this]; simp
      | false =>
        go_wp2_with (go_at_call 121; (with_reducible refine (HCx.out _ HB.out).mono ?_); rintro e w2 ⟨rfl, hb⟩; have HB2 := Lib.hid (bl_trans HB.out hb); clear hb)
        go_roundw
        case rel => exact ⟨k + 1, by omega, by go_num, fun i hi h => by
          rcases Nat.lt_or_ge i k with h1 | h1
          · exact HN.out i hi h1
          · obtain rfl : i = k := by omega
            rw [HX.out]; exact HR.out, HB2.out⟩
        case measure => simp [intOf]; omega
    · obtain rfl : k = l.length := by omega
      go_wp2
      go_ret
      refine ⟨⟨_, rfl, ?_⟩, HB.out⟩
      have : l.any P = false := by
        rw [List.any_eq_false]
        intro x hx
        obtain ⟨i, hi, rfl⟩ := List.mem_iff_getElem.1 hx
        simpa using HN.out i hi hi
      rw [this]; simp
theorem sOutHas (P : UInt8 → Bool) (l : List UInt8) (a : Option Addr) (c : Nat) (hl : l.length ≤ maxLen) (w : World) (h : CellsAt w a (l.flatMap byV))
    (hc : ∀ x ∈ l, ∀ W, Below w.heap.size w W → Calls Tryz.prog 121 #[.int .u8 (x.toNat : Nat)] W fun e w' => e = .returned (.bool (P x)) ∧ Below W.heap.size W w') :
    Calls Tryz.prog 120 #[.slice a l.length c, .func (.func 121) #[] #[]] w fun e w' => e = .returned (.bool (l.any P)) ∧ Below w.heap.size w w' := by
  have HI := Lib.hid (sOutIdx P l a c hl w h hc)
  clear h hc
  go_enter Tryz.func120, Tryz.ntmps120
  go_wp2_with (go_at_call 182; (with_reducible refine HI.out.mono ?_); rintro e w2 ⟨⟨k, rfl, hk⟩, hb⟩; have HB := Lib.hid hb; clear hb)
  go_ret
  exact ⟨by rw [← hk]; rfl, HB.out⟩
end Go.Proofs.YtbhfbdcmamodcaaGreatDoor
namespace Go.Proofs.YtbhfbdcmamodcaaGreatDoor
open Go.RowKit
def GoodName (s : ByteArray) : Prop := 1 ≤ s.size ∧ s.size ≤ 32 ∧ s.data.toList.any outB = false
theorem sNamed (s : ByteArray) (h : GoodName s) (w : World) : Calls Tryz.prog 54 #[.string s] w fun e w' => e = .returned (.bool true) ∧ Below w.heap.size w w' := by
  obtain ⟨h1, h2, h3⟩ := h
  have hcv : ∀ W : World, (convert 9 23 (.string s)).run Tryz.prog W = .ok (.slice (some ⟨W.heap.size, 0, none⟩) s.size (grownCap W s.size 0 5)) (Lib.bytesWorld W 5 s) := fun W => Lib.run_convert_string_bytes W _ _ 5 s Tryz.underlying9 Tryz.underlying23 Tryz.underlying5
  have h4 : decide ((s.size : Int) ≤ 32) = true := by simp; omega
  have HC := Lib.hid (fun W hW => sOutHas outB s.data.toList (some ⟨w.heap.size, 0, none⟩) (grownCap w s.size 0 5) (by rw [Array.length_toList]; show s.size ≤ _; unfold maxLen; omega) W hW (fun x _ W' _ => sOut x W'))
  have hlen : s.data.toList.length = s.size := Array.length_toList
  rw [h3, hlen] at HC
  have hne : s.toList ≠ [] := by
    intro e
    rw [ByteArray.toList_eq] at e
    have : (0 : Nat) = s.size := by rw [← hlen, e]; rfl
    omega
  have hem : s.toList.isEmpty = false := by rw [List.isEmpty_eq_false_iff]; exact hne
  have HN := Lib.hid (by_new w 5 s)
  have HB := Lib.hid (Lib.bytesWorld_below w 5 s)
  go_enter Tryz.func54, Tryz.ntmps54
  go_wp2_with fail
  (with_reducible refine (HC.out _ HN.out).mono ?_)
  rintro e w2 ⟨rfl, hb⟩
  have HB2 := Lib.hid (bl_trans HB.out hb)
  clear hb
  go_wp2
  go_ret
  exact ⟨rfl, HB2.out⟩
end Go.Proofs.YtbhfbdcmamodcaaGreatDoor
