/- Walks of layer 1: More and Sum of the program and of the document's answer; the document's first example. -/
import Derived.Test.YtlnekfdamdfelaaSumW2
import Derived.Test.YtlnekfdamdfelaaOpen
set_option linter.unusedVariables false
set_option linter.unusedSimpArgs false
namespace Go.Proofs.Ytlnekfdamdfelaa
open Go.RowKit SumMath

def flat (ss : List ByteArray) : List UInt8 := ss.flatMap (fun s => s.data.toList)
theorem flat_snoc (ss : List ByteArray) (k : Nat) (h : k < ss.length) : flat (ss.take (k + 1)) = flat (ss.take k) ++ ss[k].data.toList := by
  unfold flat
  rw [List.take_succ_eq_append_getElem h, List.flatMap_append]
  simp

theorem crc_start (ss : List ByteArray) : crc (flat (ss.take 0)) = 0 := by rw [List.take_zero]; exact more_nil 0

theorem tab_cell (w : World) (t : TypeId) (i : Nat) (h : i < 256) : (w.alloc (.cells (tab 256) t)).cell? ⟨w.heap.size, i, none⟩ = some (.int .u32 (turns 8 i : Nat)) := by
  rw [World.cell?_alloc_new, tab_get _ _ h, if_pos h]

set_option maxHeartbeats 400000 in
set_option maxRecDepth 100000 in
theorem refsum_any (a : Option Addr) (cap : Nat) (ss : List ByteArray) (hl : ss.length ≤ maxLen) (w : World) (hS : StrsAt w a ss) :
    Calls Try.prog 12 #[.slice a ss.length cap] w fun e w' => e = .returned (.int .u32 (crc (flat ss))) ∧ w = w' := by
  unfold maxLen at hl
  go_enter Try.func12, Try.ntmps12
  go_wp2
  go_loop [3, 4] (fun c i => ∃ k : Nat, k ≤ ss.length ∧ i = .int .i64 k ∧ c = .int .u32 (crc (flat (ss.take k)))) (fun _ i => ss.length - (intOf i).toNat)
  case atStart => exact ⟨0, Nat.zero_le _, rfl, by rw [crc_start]; rfl⟩
  case round =>
    obtain ⟨k, hk, rfl, rfl⟩ := hrel
    by_cases hlt : k < ss.length
    · obtain ⟨hz, b, off, rfl, hc⟩ := hS k hlt
      have hcl := crc_lt (flat (ss.take k))
      have HF := Lib.hid (flat_snoc ss k hlt)
      have HA := Lib.hid (crc_append (flat (ss.take k)) ss[k].data.toList)
      generalize ss[k] = t at hz hc HF HA
      go_wp2_with (go_at_call 27; refine (refmore_any _ hcl t hz _).mono ?_; rintro e w' ⟨rfl, rfl⟩)
      go_round
      case rel => exact ⟨k + 1, by omega, by go_num, by rw [HF.out, ← HA.out]⟩
      case measure => simp [intOf]; omega
    · obtain rfl : k = ss.length := by omega
      go_wp2
      go_ret
      exact ⟨rfl, rfl⟩

set_option maxHeartbeats 400000 in
set_option maxRecDepth 100000 in
theorem sum_any (a : Option Addr) (cap : Nat) (ss : List ByteArray) (hl : ss.length ≤ maxLen) (w : World) (hS : StrsAt w a ss) :
    Calls Try.prog 25 #[.slice a ss.length cap] w fun e w' => e = .returned (.int .u32 (crc (flat ss))) ∧ Below w.heap.size w w' := by
  unfold maxLen at hl
  have hv := (zero_of_info zero256).1
  have HI := Lib.hid (zero_of_info zero256).2
  have HS := Lib.hid hS
  clear hS
  rw [← tab_zero] at hv
  go_enter Try.func25, Try.ntmps25
  go_wp2_with (first
    | (go_at_call 36; refine (rows_any _).mono ?_; rintro e w1 ⟨rfl, hb1⟩)
    | (refine wpList_store_row rfl 72 (.tmp 3) (.tmp 7) rfl w1.heap.size (tab 256) rfl rfl 72 (tab 0) (heap_alloc_new w1 _) (by rw [tab_size]; exact HI.out) (by rw [tab_size, tab_size]) (tab_one 256) ?_; rw [World.setRow_alloc_new]))
  have hT : ∀ i, i < 256 → (w1.alloc (.cells (tab 256) 72)).cell? ⟨w1.heap.size, i, none⟩ = some (.int .u32 (turns 8 i : Nat)) := fun i hi => tab_cell w1 _ i hi
  have hbv : Below w.heap.size w (w1.alloc (.cells (tab 256) 72)) := hb1.alloc hb1.size _
  have hsz : w1.heap.size < (w1.alloc (.cells (tab 256) 72)).heap.size := by simp
  have hw1 := hb1.size
  generalize w1.alloc (.cells (tab 256) 72) = wv at hT hbv hsz ⊢
  have HT := Lib.hid hT; have HB := Lib.hid hbv; have HZ := Lib.hid hsz
  clear hT hbv hsz hb1 hv HI
  go_loopw [4, 10] (fun c i wr => ∃ k : Nat, k ≤ ss.length ∧ i = .int .i64 k ∧ c = .int .u32 (eat ones (flat (ss.take k))) ∧ Below wv.heap.size wv wr) (fun _ i _ => ss.length - (intOf i).toNat)
  case atStart => exact ⟨0, Nat.zero_le _, rfl, by rw [List.take_zero]; rfl, Below.refl _ _⟩
  case round =>
    obtain ⟨k, hk, rfl, rfl, hbr⟩ := hrel
    have hcl := eat_lt (c := ones) (by decide) (flat (ss.take k))
    have hff := flip_max _ hcl
    by_cases hlt : k < ss.length
    · have hS2 := (HS.out.below HB.out (Nat.le_refl _)).below hbr (Nat.le_refl _)
      obtain ⟨hz, b, off, rfl, hc⟩ := hS2 k hlt
      have hT2 : ∀ i, i < 256 → wr.cell? ⟨w1.heap.size, i, none⟩ = some (.int .u32 (turns 8 i : Nat)) := fun i hi => (hbr.cell (p := ⟨w1.heap.size, i, none⟩) HZ.out).trans (HT.out i hi)
      have HT2 := Lib.hid hT2
      have HR := Lib.hid hbr
      have HF := Lib.hid (flat_snoc ss k hlt)
      have HA := Lib.hid (eat_append ones (flat (ss.take k)) ss[k].data.toList)
      clear hS2 hT2 hbr
      generalize ss[k] = t at hz hc HF HA
      go_wp2_with (go_at_call 37; refine (take_any w1.heap.size _ hcl t hz _ (by exact HT2.out)).mono ?_; rintro e w2 ⟨rfl, hb2⟩)
      go_roundw
      case rel => exact ⟨k + 1, by omega, by go_num, by rw [HF.out, HA.out], HR.out.trans (hb2.mono HR.out.size)⟩
      case measure => simp [intOf]; omega
    · obtain rfl : k = ss.length := by omega
      have HR := Lib.hid hbr
      clear hbr
      rw [List.take_length] at hff ⊢
      go_wp2
      go_ret
      exact ⟨ret_int (by rw [crc_eq]), HB.out.trans (HR.out.mono HB.out.size)⟩
end Go.Proofs.Ytlnekfdamdfelaa
