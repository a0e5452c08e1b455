/- Walks of layer 1: the table of eight turns, the taking of a text by it, sums. -/
import Derived.Test.YtlnekfdamdfelaaSumW1
import Derived.Deep.WholeRow
import Derived.Laws.IdiomStrings
set_option linter.unusedVariables false
set_option linter.unusedSimpArgs false
namespace Go.Proofs.Ytlnekfdamdfelaa
open Go.RowKit SumMath

def tab (k : Nat) : Array Value := ((List.range 256).map fun i => if i < k then Value.int .u32 (turns 8 i : Nat) else .int .u32 0).toArray
theorem tab_zero : tab 0 = Array.replicate 256 (.int .u32 0) := by
  apply Array.ext_getElem?
  intro i
  by_cases h : i < 256
  · simp [tab, h]
  · simp [tab, h]
theorem tab_size (k : Nat) : (tab k).size = 256 := by simp [tab]
theorem tab_get (k i : Nat) (h : i < 256) : (tab k)[i]? = some (if i < k then Value.int .u32 (turns 8 i : Nat) else .int .u32 0) := by
  simp [tab, h]
theorem tab_set (k : Nat) (_h : k < 256) : (tab k).setIfInBounds k (.int .u32 (turns 8 k : Nat)) = tab (k + 1) := by
  apply Array.ext_getElem?
  intro i
  rw [Array.getElem?_setIfInBounds]
  by_cases hi : i < 256
  · rw [tab_get _ _ hi, tab_get _ _ hi, tab_size]
    by_cases e : k = i
    · subst e; simp [hi]
    · by_cases hk : i < k
      · simp [e, hk, Nat.lt_succ_of_lt hk]
      · have : ¬ i < k + 1 := by omega
        simp [e, hk, this]
  · have e1 : (tab k)[i]? = none := by rw [Array.getElem?_eq_none]; rw [tab_size]; omega
    have e2 : (tab (k + 1))[i]? = none := by rw [Array.getElem?_eq_none]; rw [tab_size]; omega
    rw [e1, e2, tab_size]
    by_cases e : k = i
    · subst e; simp [hi]
    · simp [e]
theorem tab_one (k : Nat) : (tab k).all (·.oneCell') = true := by
  rw [Array.all_eq_true]
  intro i hi
  rw [tab_size] at hi
  have h := tab_get k i hi
  rw [Array.getElem?_eq_getElem (by rw [tab_size]; exact hi)] at h
  have h' := Option.some.inj h
  rw [h']
  split <;> rfl

theorem zero256 : (Try.prog.info? 72).map (fun i => (i.zero, i.size)) = some (some (.agg (Array.replicate 256 (.int .u32 0))), 256) := by kernel_rfl

set_option maxHeartbeats 400000 in
set_option maxRecDepth 100000 in
theorem rows_any (w : World) :
    Calls Try.prog 36 #[] w fun e w' => e = .returned (.agg (tab 256)) ∧ Below w.heap.size w w' := by
  have hv := (zero_of_info zero256).1
  rw [← tab_zero] at hv
  go_enter Try.func36, Try.ntmps36
  go_wp2
  go_loopw [4] (fun i wr => ∃ k : Nat, k ≤ 256 ∧ i = .int .i64 k ∧ wr = (w.alloc (.cells (tab 0) 72)).alloc (.cells (tab k) 72)) (fun i _ => 256 - (intOf i).toNat)
  case atStart => exact ⟨0, Nat.zero_le _, rfl, rfl⟩
  case round =>
    obtain ⟨k, hk, rfl, rfl⟩ := hrel
    by_cases hlt : k < 256
    · have HT := Lib.hid (tab_set k hlt)
      have hki : decide ((k : Int) < 256) = true := by simp; omega
      have hgk : (tab k)[k]? = some (.int .u32 0) := by rw [tab_get k k hlt]; simp
      go_wp2
      go_loop [3, 9] (fun c i => ∃ j : Nat, j ≤ 8 ∧ i = .int .i64 j ∧ c = .int .u32 (turns j k)) (fun _ i => 8 - (intOf i).toNat)
      case atStart => exact ⟨0, Nat.zero_le _, rfl, rfl⟩
      case round =>
        obtain ⟨j, hj, rfl, rfl⟩ := hrel
        have htl := turns_lt j (c := k) (by omega)
        have HS := Lib.hid (turns_succ' j k)
        by_cases hj8 : j < 8
        · go_wp2_with (go_at_call 44; refine (turn_any _ htl _).mono ?_; rintro e w' ⟨rfl, rfl⟩)
          go_round
          case rel => exact ⟨j + 1, by omega, by go_num, by rw [HS.out]⟩
          case measure => simp [intOf]; omega
        · obtain rfl : j = 8 := by omega
          go_wp2
          go_roundw
          case rel => exact ⟨k + 1, by omega, by go_num, by rw [HT.out]⟩
          case measure => simp [intOf]; omega
    · obtain rfl : k = 256 := by omega
      have hi := (zero_of_info zero256).2
      have h0 : ((w.alloc (.cells (tab 0) 72)).alloc (.cells (tab 256) 72)).heap[w.heap.size]? = some (.cells (tab 0) 72 (0, 0)) := heap_alloc2_old _ _ _
      have h1 : ((w.alloc (.cells (tab 0) 72)).alloc (.cells (tab 256) 72)).heap[w.heap.size + 1]? = some (.cells (tab 256) 72 (0, 0)) := heap_alloc2_new _ _ _
      have H0 := Lib.hid h0; have H1 := Lib.hid h1; have HI := Lib.hid hi
      clear h0 h1 hi
      go_wp2_with (first
        | (refine wpList_load_row rfl 72 (.tmp 1) rfl (w.heap.size + 1) rfl 72 (tab 256) (0, 0) _ H1.out Try.underlying72 rfl (by rw [tab_size]; exact HI.out) ?_)
        | (refine wpList_store_row rfl 72 (.tmp 0) (.tmp 18) rfl w.heap.size (tab 256) rfl rfl 72 (tab 0) H0.out (by rw [tab_size]; exact HI.out) (by rw [tab_size, tab_size]) (tab_one 256) ?_))
      refine bodyPost_ret (v := .agg (tab 256)) (results_cell_row rfl _ _ w.heap.size 72 (tab 256) (0, 0) _ rfl (setRow_heap _ _ _ _ _ _ H0.out) Try.underlying72 rfl (by rw [tab_size]; exact HI.out)) rfl ⟨rfl, ?_⟩
      exact (((Below.refl _ _).alloc (Nat.le_refl _) _).alloc (by simp) _).trans ⟨rfl, rfl, rfl, by simp, fun j hj => setRow_other _ _ _ _ (by omega)⟩

theorem tab_step (v x I : Nat) (hv : v < 4294967296) (hI : I = (v % 256) ^^^ x) (hI8 : I < 256) :
    bits .xor .u32 ((turns 8 I : Nat) : Int) ((v : Int) / 256) = ((turns 8 (v ^^^ x) : Nat) : Int) := by
  have e := byTable v x
  rw [← hI] at e
  have d : ((v : Int) / 256) = ((v / 256 : Nat) : Int) := by omega
  rw [d, b32_xor _ _ (turns_lt 8 (Nat.lt_trans hI8 (by decide))) (by omega), e]

set_option maxHeartbeats 400000 in
set_option maxRecDepth 100000 in
theorem take_any (b c : Nat) (hc : c < 4294967296) (s : ByteArray) (hs : s.size ≤ maxLen) (w : World)
    (hT : ∀ i, i < 256 → w.cell? ⟨b, i, none⟩ = some (.int .u32 (turns 8 i : Nat))) :
    Calls Try.prog 37 #[.pointer (some ⟨b, 0, none⟩), .int .u32 c, .string s] w fun e w' =>
      e = .returned (.int .u32 (eat c s.data.toList)) ∧ Below w.heap.size w w' := by
  unfold maxLen at hs
  have hbw : b < w.heap.size := World.block_lt_of_cell? w _ (hT 0 (by decide))
  have HT := Lib.hid hT
  clear hT
  have hcv := fun w => run_bytes_of_string (P := Try.prog) w 9 23 5 s Try.underlying9 Try.underlying23 Try.underlying5
  go_enter Try.func37, Try.ntmps37
  go_wp2
  generalize grownCap w s.size 0 5 = cap
  generalize hwv : (w.alloc (.cells (bytesRow s cap) 5 ((bytesRow s cap).size, (bytesRow s cap).size + 1))).drew = wv
  have HB := Lib.hid (show Below w.heap.size w wv by rw [← hwv]; exact ((Below.refl _ _).alloc (Nat.le_refl _) _).drew)
  have HC := Lib.hid (show ∀ i (h : i < s.size), wv.cell? ⟨w.heap.size, i, none⟩ = some (.int .u8 (s[i].toNat : Nat)) from fun i h => by
    rw [← hwv]; show (w.alloc _).cell? _ = _; rw [World.cell?_alloc_mark, bytesRow_at s _ i h]; rfl)
  clear hwv hcv
  go_loop [1, 12] (fun v i => ∃ k : Nat, k ≤ s.size ∧ i = .int .i64 k ∧ v = .int .u32 (eat c (s.data.toList.take k))) (fun _ i => s.size - (intOf i).toNat)
  case atStart => exact ⟨0, Nat.zero_le _, rfl, rfl⟩
  case round =>
    obtain ⟨k, hk, rfl, rfl⟩ := hrel
    have hel := eat_lt hc (s.data.toList.take k)
    by_cases hlt : k < s.size
    · have HE := Lib.hid (eat_take c s k hlt)
      have hcell := HC.out k hlt
      generalize hx : s[k] = x at hcell
      generalize he : eat c (s.data.toList.take k) = v at hel
      rw [hx, he] at HE
      have hxl := x.toNat_lt
      obtain ⟨I, hI⟩ : ∃ I, I = (v % 256) ^^^ x.toNat := ⟨_, rfl⟩
      have hI8 : I < 256 := by rw [hI]; exact Nat.xor_lt_two_pow (n := 8) (by omega) (by omega)
      have h8 : bits .xor .u8 ((v : Int) % 256) (x.toNat : Int) = (I : Int) := by
        rw [hI, show ((v : Int) % 256) = ((v % 256 : Nat) : Int) from by omega]; exact b8_xor _ _ (by omega) (by omega)
      have h32 : bits .xor .u32 ((turns 8 I : Nat) : Int) ((v : Int) / 256) = ((turns 8 (v ^^^ x.toNat) : Nat) : Int) := tab_step v x.toNat I hel hI hI8
      have htc : wv.cell? ⟨b, I, none⟩ = some (.int .u32 (turns 8 I : Nat)) := by rw [HB.out.cell (p := ⟨b, I, none⟩) hbw]; exact HT.out I hI8
      clear hI
      go_wp2
      go_round
      case rel => exact ⟨k + 1, by omega, by go_num, by rw [HE.out]⟩
      case measure => simp [intOf]; omega
    · obtain rfl : k = s.size := by omega
      go_wp2
      go_ret
      exact ⟨ret_int (by rw [List.take_of_length_le (by simp)]), HB.out⟩
end Go.Proofs.Ytlnekfdamdfelaa
