/- The whole: generation numbers, by the program; The whole: is a filter good?. -/
import Derived.Test.YtbhfbdcmamodcaaGreatDoorL03
import Derived.Test.YtbhfbdcmamodcaaGreatDoorL01
import Derived.Test.YtbhfbdcmamodcaaGreatDoorProg
set_option linter.unusedVariables false
set_option linter.unusedSimpArgs false
namespace Go.Proofs.YtbhfbdcmamodcaaGreatDoor
open Go.RowKit
def NumsAt (w : World) (a : Option Addr) (l : List Nat) : Prop := ∀ i (h : i < l.length), ∃ b off, a = some ⟨b, off, none⟩ ∧ b < w.heap.size ∧ w.cell? ⟨b, off + i, none⟩ = some (.int .i64 (l[i] : Nat))
theorem NumsAt.below {w w' : World} {a : Option Addr} {l : List Nat} (h : NumsAt w a l) (hb : Below w.heap.size w w') : NumsAt w' a l := fun i hi => by
  obtain ⟨b, off, h1, h0, h2⟩ := h i hi
  exact ⟨b, off, h1, Nat.lt_of_lt_of_le h0 hb.size, bl_cell hb h2⟩
def highG (l : List Nat) : Nat := l.foldl max 0
def nextG (l : List Nat) : Nat := min (highG l + 1) 1023
theorem highG_snoc (l : List Nat) {k : Nat} (h : k < l.length) : highG (l.take (k + 1)) = max (highG (l.take k)) l[k] := by
  unfold highG
  rw [List.take_succ_eq_append_getElem h, List.foldl_append]
  rfl
theorem highG_le {l : List Nat} (h : ∀ x ∈ l, x ≤ 1023) : highG l ≤ 1023 := by
  unfold highG
  have : ∀ (l : List Nat) (m : Nat), m ≤ 1023 → (∀ x ∈ l, x ≤ 1023) → l.foldl max m ≤ 1023 := by
    intro l
    induction l with
    | nil => intro m hm _; exact hm
    | cons x r ih => intro m hm hx; exact ih _ (Nat.max_le.2 ⟨hm, hx x (by simp)⟩) fun y hy => hx y (by simp [hy])
  exact this l 0 (by omega) h
set_option maxRecDepth 100000 in
theorem gCounted (n : Nat) (h1 : 1 ≤ n) (h2 : n ≤ 1023) (w : World) : Calls Tryz.prog 109 #[.int .i64 n] w fun e w' => e = .returned (.int .i64 n) ∧ w' = w := by
  have hm : max (n : Int) 1 = (n : Int) := by omega
  have hm2 : (if (n : Int) < 1 then (1 : Int) else (n : Int)) = (n : Int) := by split <;> omega
  go_enter Tryz.func109, Tryz.ntmps109
  go_wp2
  go_ret
  exact ⟨by first | rfl | simp [hm], rfl⟩
set_option maxHeartbeats 1000000 in
set_option maxRecDepth 100000 in
theorem gNext (l : List Nat) (h1 : ∀ x ∈ l, 1 ≤ x ∧ x ≤ 1023) (hl : l.length ≤ 1000000) (a : Option Addr) (c : Nat) (w : World) (h : NumsAt w a l) :
    Calls Tryz.prog 101 #[.slice a l.length c] w fun e w' => e = .returned (.int .i64 (nextG l : Nat)) ∧ w' = w := by
  have HA := Lib.hid h; have H1 := Lib.hid h1
  have hle := highG_le fun x hx => (h1 x hx).2
  clear h h1
  go_enter Tryz.func101, Tryz.ntmps101
  go_wp2
  go_loopw [3, 8] (fun hv iv wr => ∃ k : Nat, k ≤ l.length ∧ iv = .int .i64 k ∧ hv = .int .i64 (highG (l.take k) : Nat) ∧ wr = w) (fun _ iv _ => l.length - (intOf iv).toNat)
  case atStart => exact ⟨0, Nat.zero_le _, rfl, rfl, rfl⟩
  case round =>
    obtain ⟨k, hk, rfl, rfl, rfl⟩ := hrel
    by_cases hlt : k < l.length
    · obtain ⟨b, off, rfl, _, hc⟩ := HA.out k hlt
      obtain ⟨x, hx⟩ : ∃ x, l[k] = x := ⟨_, rfl⟩
      have hxb := H1.out _ (List.getElem_mem hlt)
      have HS := Lib.hid (highG_snoc l hlt)
      rw [hx] at hc hxb HS
      obtain ⟨g, hg⟩ : ∃ g, highG (l.take k) = g := ⟨_, rfl⟩
      rw [hg] at HS
      rw [hg]
      obtain ⟨m, hm⟩ : ∃ m, max g x = m := ⟨_, rfl⟩
      have hmz : max (g : Int) (x : Int) = (m : Int) := by omega
      have hmz2 : (if (g : Int) < (x : Int) then (x : Int) else (g : Int)) = (m : Int) := by split <;> omega
      have HCt := Lib.hid (fun W => gCounted x hxb.1 hxb.2 W)
      rw [hm] at HS
      clear hx hg hm
      go_wp2_with (go_at_call 109; (with_reducible refine (HCt.out _).mono ?_); rintro e w2 ⟨rfl, rfl⟩)
      go_roundw
      case rel => exact ⟨k + 1, by omega, by go_num, by rw [HS.out]; first | rfl | (simp; omega), by first | rfl | trivial⟩
      case measure => simp [intOf]; omega
    · have htk : l.take k = l := List.take_of_length_le (by omega)
      have HN := Lib.hid (show nextG l = min (highG l + 1) 1023 from rfl)
      rw [htk]
      obtain ⟨g, hg⟩ : ∃ g, highG l = g := ⟨_, rfl⟩
      rw [hg] at hle HN
      rw [hg]
      clear htk hg
      by_cases hc : 1023 ≤ g
      · go_wp2
        go_ret
        exact ⟨by rw [HN.out]; exact ret_int (by omega), rfl⟩
      · go_wp2
        go_ret
        exact ⟨by rw [HN.out]; exact ret_int (by omega), rfl⟩
end Go.Proofs.YtbhfbdcmamodcaaGreatDoor
namespace Go.Proofs.YtbhfbdcmamodcaaGreatDoor
open Go.RowKit
theorem str_nil {b : ByteArray} (h : b.size ≠ 0) : (b.toList == (⟨#[]⟩ : ByteArray).toList) = false := by
  simp only [beq_eq_false_iff_ne, ne_eq, ByteArray.toList_eq]
  intro k
  have : b.data.size = 0 := by rw [Array.toList_inj.1 k]; rfl
  exact h this
theorem str_none {b : ByteArray} (h : b.size = 0) : b = ⟨#[]⟩ := by
  cases b with
  | mk d => congr; exact Array.eq_empty_of_size_eq_zero h
set_option maxRecDepth 100000 in
/-- A filter as bloom makes them is good. -/
theorem gGoodFilter (st : Nat) (b : ByteArray) (h : (st = 1 ∧ b.size ≠ 0 ∧ b.size ≤ 4096) ∨ (st = 2 ∧ b.size = 0)) (w : World) :
    Calls Tryz.prog 230 #[.agg #[.int .i64 st, .string b]] w fun e w' => e = .returned (.bool true) ∧ Below w.heap.size w w' := by
  have HB := Lib.hid (bl_alloc (Below.refl _ w) (.cells #[.int .i64 st, .string b] 183))
  rcases h with ⟨rfl, h1, h2⟩ | ⟨rfl, h1⟩
  · have hn := str_nil h1
    have hn3 : b.toList.isEmpty = false := by
      cases he : b.toList with
      | nil => rw [he, ByteArray.toList_eq] at hn; exact absurd hn (by simp)
      | cons _ _ => rfl
    have hn2 : (b.toList != (⟨#[]⟩ : ByteArray).toList) = true := by rw [bne, hn]; rfl
    have hd : decide ((b.size : Int) ≤ 4096) = true := by simp; omega
    go_enter Tryz.func230, Tryz.ntmps230
    go_wp2
    go_ret
    exact ⟨rfl, HB.out⟩
  · obtain rfl := str_none h1
    go_enter Tryz.func230, Tryz.ntmps230
    go_wp2
    go_ret
    exact ⟨rfl, HB.out⟩
end Go.Proofs.YtbhfbdcmamodcaaGreatDoor
