/- Walks of layer 1: More and Sum of the program and of the document's answer; the document's first example; Walks of layer 1: the document's first example, and the laws SumIs and SumMore. -/
import Derived.Test.YtbhfbdcmamodcaaGreatDoorL19
import Derived.Test.YtbhfbdcmamodcaaGreatDoorL06
set_option linter.unusedVariables false
set_option linter.unusedSimpArgs false
namespace Go.Proofs.YtbhfbdcmamodcaaGreatDoor
open Go.RowKit SumMath
def flat (ss : List ByteArray) : List UInt8 := ss.flatMap (fun s => s.data.toList)
theorem flat_snoc (ss : List ByteArray) (k : Nat) (h : k < ss.length) : flat (ss.take (k + 1)) = flat (ss.take k) ++ ss[k].data.toList := by
  unfold flat
  rw [List.take_succ_eq_append_getElem h, List.flatMap_append]
  simp
theorem tab_cell (w : World) (t : TypeId) (i : Nat) (h : i < 256) : (w.alloc (.cells (tab 256) t)).cell? ⟨w.heap.size, i, none⟩ = some (.int .u32 (turns 8 i : Nat)) := by
  rw [World.cell?_alloc_new, tab_get _ _ h, if_pos h]
set_option maxHeartbeats 400000 in
set_option maxRecDepth 100000 in
theorem sum_any (a : Option Addr) (cap : Nat) (ss : List ByteArray) (hl : ss.length ≤ maxLen) (w : World) (hS : StrsAt w a ss) :
    Calls Tryz.prog 90 #[.slice a ss.length cap] w fun e w' => e = .returned (.int .u32 (crc (flat ss))) ∧ Below w.heap.size w w' := by
  unfold maxLen at hl
  have hv := (zero_of_info zero256).1
  have HI := Lib.hid (zero_of_info zero256).2
  have HS := Lib.hid hS
  clear hS
  rw [← tab_zero] at hv
  go_enter Tryz.func90, Tryz.ntmps90
  go_wp2_with (first
    | (go_at_call 149; refine (rows_any _).mono ?_; rintro e w1 ⟨rfl, hb1⟩)
    | (refine wpList_store_row rfl 245 (.tmp 3) (.tmp 7) rfl w1.heap.size (tab 256) rfl rfl 245 (tab 0) (heap_alloc_new w1 _) (by rw [tab_size]; exact HI.out) (by rw [tab_size, tab_size]) (tab_one 256) ?_; rw [World.setRow_alloc_new]))
  have hT : ∀ i, i < 256 → (w1.alloc (.cells (tab 256) 245)).cell? ⟨w1.heap.size, i, none⟩ = some (.int .u32 (turns 8 i : Nat)) := fun i hi => tab_cell w1 _ i hi
  have hbv : Below w.heap.size w (w1.alloc (.cells (tab 256) 245)) := hb1.alloc hb1.size _
  have hsz : w1.heap.size < (w1.alloc (.cells (tab 256) 245)).heap.size := by simp
  have hw1 := hb1.size
  generalize w1.alloc (.cells (tab 256) 245) = wv at hT hbv hsz ⊢
  have HT := Lib.hid hT; have HB := Lib.hid hbv; have HZ := Lib.hid hsz
  clear hT hbv hsz hb1 hv HI
  go_loopw [4, 10] (fun c i wr => ∃ k : Nat, k ≤ ss.length ∧ i = .int .i64 k ∧ c = .int .u32 (eat ones (flat (ss.take k))) ∧ Below wv.heap.size wv wr) (fun _ i _ => ss.length - (intOf i).toNat)
  case atStart => exact ⟨0, Nat.zero_le _, rfl, by rw [List.take_zero]; rfl, Below.refl _ _⟩
  case round =>
    obtain ⟨k, hk, rfl, rfl, hbr⟩ := hrel
    have hcl := eat_lt (c := ones) (by decide) (flat (ss.take k))
    have hff := flip_max _ hcl
    by_cases hlt : k < ss.length
    · have hS2 := (HS.out.below HB.out (Nat.le_refl _)).below hbr (Nat.le_refl _)
      obtain ⟨hz, b, off, rfl, hc⟩ := hS2 k hlt
      have hT2 : ∀ i, i < 256 → wr.cell? ⟨w1.heap.size, i, none⟩ = some (.int .u32 (turns 8 i : Nat)) := fun i hi => (hbr.cell (p := ⟨w1.heap.size, i, none⟩) HZ.out).trans (HT.out i hi)
      have HT2 := Lib.hid hT2
      have HR := Lib.hid hbr
      have HF := Lib.hid (flat_snoc ss k hlt)
      have HA := Lib.hid (eat_append ones (flat (ss.take k)) ss[k].data.toList)
      clear hS2 hT2 hbr
      generalize ss[k] = t at hz hc HF HA
      go_wp2_with (go_at_call 150; refine (take_any w1.heap.size _ hcl t hz _ (by exact HT2.out)).mono ?_; rintro e w2 ⟨rfl, hb2⟩)
      go_roundw
      case rel => exact ⟨k + 1, by omega, by go_num, by rw [HF.out, HA.out], HR.out.trans (hb2.mono HR.out.size)⟩
      case measure => simp [intOf]; omega
    · obtain rfl : k = ss.length := by omega
      have HR := Lib.hid hbr
      clear hbr
      rw [List.take_length] at hff ⊢
      go_wp2
      go_ret
      exact ⟨ret_int (by rw [crc_eq]), HB.out.trans (HR.out.mono HB.out.size)⟩
end Go.Proofs.YtbhfbdcmamodcaaGreatDoor
namespace Go.Proofs.YtbhfbdcmamodcaaGreatDoor
open Go.RowKit SumMath
theorem sum_at (a : Option Addr) (n cap : Nat) (ss : List ByteArray) (hn : n = ss.length) (hl : n ≤ maxLen) (w : World) (hS : StrsAt w a ss) :
    Calls Tryz.prog 90 #[.slice a n cap] w fun e w' => e = .returned (.int .u32 (crc (flat ss))) ∧ Below w.heap.size w w' := by
  subst hn
  exact sum_any a cap ss hl w hS
theorem strs_new (w : World) (t : TypeId) (ss : List ByteArray) (hz : ∀ s ∈ ss, s.size ≤ maxLen) (cs : Array Value) (hc : cs = (ss.map Value.string).toArray) :
    StrsAt (w.alloc (.cells cs t)) (some ⟨w.heap.size, 0, none⟩) ss := fun i hi => by
  refine ⟨hz _ (List.getElem_mem hi), w.heap.size, 0, rfl, ?_⟩
  rw [Nat.zero_add, World.cell?_alloc_new, hc]
  simp [hi]
end Go.Proofs.YtbhfbdcmamodcaaGreatDoor
