/- Walks of layer 1: what one turn does, in the program and in the document's answer; a sum's bytes bit by bit; Walks of layer 1: the table of eight turns, the taking of a text by it, sums; Walks of layer 13: the hash of a path, in the program and in the document's answer; Walks of layer 13: the settings' check. -/
import Derived.Test.YtbhfbdcmamodcaaGreatDoorL03
import Derived.Test.YtbhfbdcmamodcaaGreatDoorL01
import Derived.Test.YtbhfbdcmamodcaaGreatDoorRows
import Derived.WalkKit
import Derived.WalkSpells
import Derived.WalkLawsBesides
import Derived.Deep.WholeRow
import Derived.Laws.IdiomStrings
set_option linter.unusedVariables false
set_option linter.unusedSimpArgs false
namespace Go.Proofs.YtbhfbdcmamodcaaGreatDoor
open Go.RowKit SumMath
theorem turn_yes {c : Nat} (hc : c < 4294967296) (h : (bits BinOp.and IntKind.u32 (c : Int) 1 != 0) = true) : bits BinOp.xor IntKind.u32 ((c : Int) / 2) 3988292384 = (turn c : Int) := by
  rw [b32_and1 c hc] at h
  have h1 : c % 2 = 1 := by
    have : c % 2 ≠ 0 := by intro e; rw [e] at h; simp at h
    omega
  have e : ((c : Int) / 2) = ((c / 2 : Nat) : Int) := by omega
  rw [e, show (3988292384 : Int) = ((3988292384 : Nat) : Int) from rfl, b32_xor _ _ (by omega) (by decide)]
  unfold turn poly
  rw [if_pos h1]
theorem turn_no {c : Nat} (hc : c < 4294967296) (h : (bits BinOp.and IntKind.u32 (c : Int) 1 != 0) = false) : (c : Int) / 2 = (turn c : Int) := by
  rw [b32_and1 c hc] at h
  have h1 : ¬ c % 2 = 1 := by intro e; rw [e] at h; simp at h
  unfold turn
  rw [if_neg h1]
  omega
set_option maxHeartbeats 400000 in
theorem turn_any (c : Nat) (hc : c < 4294967296) (w : World) :
    Calls Tryz.prog 204 #[.int .u32 c] w fun e w' => e = .returned (.int .u32 (turn c)) ∧ w = w' := by
  go_enter Tryz.func204, Tryz.ntmps204
  go_wp2
  · go_ret; exact ⟨ret_int (turn_yes hc ‹_›), rfl⟩
  · go_ret; exact ⟨ret_int (turn_no hc ‹_›), rfl⟩
theorem flip_max (s : Nat) (hs : s < 4294967296) : bits BinOp.xor IntKind.u32 IntKind.u32.max (s : Int) = ((flip s : Nat) : Int) := by
  have h := b32_xor 4294967295 s (by decide) hs
  rw [Nat.xor_comm] at h
  exact h
theorem take_byte (t : ByteArray) (k : Nat) (h : k < t.size) : t.data.toList.take (k + 1) = t.data.toList.take k ++ [t[k]] := by
  rw [List.take_succ_eq_append_getElem (by simpa using h)]; rfl
theorem eat_take (c : Nat) (t : ByteArray) (k : Nat) (h : k < t.size) : eat c (t.data.toList.take (k + 1)) = turns 8 (eat c (t.data.toList.take k) ^^^ t[k].toNat) := by
  rw [take_byte t k h, eat_snoc]
end Go.Proofs.YtbhfbdcmamodcaaGreatDoor
namespace Go.Proofs.YtbhfbdcmamodcaaGreatDoor
open Go.RowKit SumMath
def tab (k : Nat) : Array Value := ((List.range 256).map fun i => if i < k then Value.int .u32 (turns 8 i : Nat) else .int .u32 0).toArray
theorem tab_zero : tab 0 = Array.replicate 256 (.int .u32 0) := by
  apply Array.ext_getElem?
  intro i
  by_cases h : i < 256
  · simp [tab, h]
  · simp [tab, h]
theorem tab_size (k : Nat) : (tab k).size = 256 := by simp [tab]
theorem tab_get (k i : Nat) (h : i < 256) : (tab k)[i]? = some (if i < k then Value.int .u32 (turns 8 i : Nat) else .int .u32 0) := by
  simp [tab, h]
theorem tab_set (k : Nat) (_h : k < 256) : (tab k).setIfInBounds k (.int .u32 (turns 8 k : Nat)) = tab (k + 1) := by
  apply Array.ext_getElem?
  intro i
  rw [Array.getElem?_setIfInBounds]
  by_cases hi : i < 256
  · rw [tab_get _ _ hi, tab_get _ _ hi, tab_size]
    by_cases e : k = i
    · subst e; simp [hi]
    · by_cases hk : i < k
      · simp [e, hk, Nat.lt_succ_of_lt hk]
      · have : ¬ i < k + 1 := by omega
        simp [e, hk, this]
  · have e1 : (tab k)[i]? = none := by rw [Array.getElem?_eq_none]; rw [tab_size]; omega
    have e2 : (tab (k + 1))[i]? = none := by rw [Array.getElem?_eq_none]; rw [tab_size]; omega
    rw [e1, e2, tab_size]
    by_cases e : k = i
    · subst e; simp [hi]
    · simp [e]
theorem tab_one (k : Nat) : (tab k).all (·.oneCell') = true := by
  rw [Array.all_eq_true]
  intro i hi
  rw [tab_size] at hi
  have h := tab_get k i hi
  rw [Array.getElem?_eq_getElem (by rw [tab_size]; exact hi)] at h
  have h' := Option.some.inj h
  rw [h']
  split <;> rfl
theorem zero256 : (Tryz.prog.info? 245).map (fun i => (i.zero, i.size)) = some (some (.agg (Array.replicate 256 (.int .u32 0))), 256) := by kernel_rfl
set_option maxHeartbeats 400000 in
set_option maxRecDepth 100000 in
theorem rows_any (w : World) :
    Calls Tryz.prog 149 #[] w fun e w' => e = .returned (.agg (tab 256)) ∧ Below w.heap.size w w' := by
  have hv := (zero_of_info zero256).1
  rw [← tab_zero] at hv
  go_enter Tryz.func149, Tryz.ntmps149
  go_wp2
  go_loopw [4] (fun i wr => ∃ k : Nat, k ≤ 256 ∧ i = .int .i64 k ∧ wr = (w.alloc (.cells (tab 0) 245)).alloc (.cells (tab k) 245)) (fun i _ => 256 - (intOf i).toNat)
  case atStart => exact ⟨0, Nat.zero_le _, rfl, rfl⟩
  case round =>
    obtain ⟨k, hk, rfl, rfl⟩ := hrel
    by_cases hlt : k < 256
    · have HT := Lib.hid (tab_set k hlt)
      have hki : decide ((k : Int) < 256) = true := by simp; omega
      have hgk : (tab k)[k]? = some (.int .u32 0) := by rw [tab_get k k hlt]; simp
      go_wp2
      go_loop [3, 9] (fun c i => ∃ j : Nat, j ≤ 8 ∧ i = .int .i64 j ∧ c = .int .u32 (turns j k)) (fun _ i => 8 - (intOf i).toNat)
      case atStart => exact ⟨0, Nat.zero_le _, rfl, rfl⟩
      case round =>
        obtain ⟨j, hj, rfl, rfl⟩ := hrel
        have htl := turns_lt j (c := k) (by omega)
        have HS := Lib.hid (turns_succ' j k)
        by_cases hj8 : j < 8
        · go_wp2_with (go_at_call 204; refine (turn_any _ htl _).mono ?_; rintro e w' ⟨rfl, rfl⟩)
          go_round
          case rel => exact ⟨j + 1, by omega, by go_num, by rw [HS.out]⟩
          case measure => simp [intOf]; omega
        · obtain rfl : j = 8 := by omega
          go_wp2
          go_roundw
          case rel => exact ⟨k + 1, by omega, by go_num, by rw [HT.out]⟩
          case measure => simp [intOf]; omega
    · obtain rfl : k = 256 := by omega
      have hi := (zero_of_info zero256).2
      have h0 : ((w.alloc (.cells (tab 0) 245)).alloc (.cells (tab 256) 245)).heap[w.heap.size]? = some (.cells (tab 0) 245 (0, 0)) := heap_alloc2_old _ _ _
      have h1 : ((w.alloc (.cells (tab 0) 245)).alloc (.cells (tab 256) 245)).heap[w.heap.size + 1]? = some (.cells (tab 256) 245 (0, 0)) := heap_alloc2_new _ _ _
      have H0 := Lib.hid h0; have H1 := Lib.hid h1; have HI := Lib.hid hi
      clear h0 h1 hi
      go_wp2_with (first
        | (refine wpList_load_row rfl 245 (.tmp 1) rfl (w.heap.size + 1) rfl 245 (tab 256) (0, 0) _ H1.out Tryz.underlying245 rfl (by rw [tab_size]; exact HI.out) ?_)
        | (refine wpList_store_row rfl 245 (.tmp 0) (.tmp 18) rfl w.heap.size (tab 256) rfl rfl 245 (tab 0) H0.out (by rw [tab_size]; exact HI.out) (by rw [tab_size, tab_size]) (tab_one 256) ?_))
      refine bodyPost_ret (v := .agg (tab 256)) (results_cell_row rfl _ _ w.heap.size 245 (tab 256) (0, 0) _ rfl (setRow_heap _ _ _ _ _ _ H0.out) Tryz.underlying245 rfl (by rw [tab_size]; exact HI.out)) rfl ⟨rfl, ?_⟩
      exact (((Below.refl _ _).alloc (Nat.le_refl _) _).alloc (by simp) _).trans ⟨rfl, rfl, rfl, by simp, fun j hj => setRow_other _ _ _ _ (by omega)⟩
theorem tab_step (v x I : Nat) (hv : v < 4294967296) (hI : I = (v % 256) ^^^ x) (hI8 : I < 256) :
    bits .xor .u32 ((turns 8 I : Nat) : Int) ((v : Int) / 256) = ((turns 8 (v ^^^ x) : Nat) : Int) := by
  have e := byTable v x
  rw [← hI] at e
  have d : ((v : Int) / 256) = ((v / 256 : Nat) : Int) := by omega
  rw [d, b32_xor _ _ (turns_lt 8 (Nat.lt_trans hI8 (by decide))) (by omega), e]
set_option maxHeartbeats 400000 in
set_option maxRecDepth 100000 in
theorem take_any (b c : Nat) (hc : c < 4294967296) (s : ByteArray) (hs : s.size ≤ maxLen) (w : World)
    (hT : ∀ i, i < 256 → w.cell? ⟨b, i, none⟩ = some (.int .u32 (turns 8 i : Nat))) :
    Calls Tryz.prog 150 #[.pointer (some ⟨b, 0, none⟩), .int .u32 c, .string s] w fun e w' =>
      e = .returned (.int .u32 (eat c s.data.toList)) ∧ Below w.heap.size w w' := by
  unfold maxLen at hs
  have hbw : b < w.heap.size := World.block_lt_of_cell? w _ (hT 0 (by decide))
  have HT := Lib.hid hT
  clear hT
  have hcv := fun w => run_bytes_of_string (P := Tryz.prog) w 9 23 5 s Tryz.underlying9 Tryz.underlying23 Tryz.underlying5
  go_enter Tryz.func150, Tryz.ntmps150
  go_wp2
  generalize grownCap w s.size 0 5 = cap
  generalize hwv : (w.alloc (.cells (bytesRow s cap) 5 ((bytesRow s cap).size, (bytesRow s cap).size + 1))).drew = wv
  have HB := Lib.hid (show Below w.heap.size w wv by rw [← hwv]; exact ((Below.refl _ _).alloc (Nat.le_refl _) _).drew)
  have HC := Lib.hid (show ∀ i (h : i < s.size), wv.cell? ⟨w.heap.size, i, none⟩ = some (.int .u8 (s[i].toNat : Nat)) from fun i h => by
    rw [← hwv]; show (w.alloc _).cell? _ = _; rw [World.cell?_alloc_mark, bytesRow_at s _ i h]; rfl)
  clear hwv hcv
  go_loop [1, 12] (fun v i => ∃ k : Nat, k ≤ s.size ∧ i = .int .i64 k ∧ v = .int .u32 (eat c (s.data.toList.take k))) (fun _ i => s.size - (intOf i).toNat)
  case atStart => exact ⟨0, Nat.zero_le _, rfl, rfl⟩
  case round =>
    obtain ⟨k, hk, rfl, rfl⟩ := hrel
    have hel := eat_lt hc (s.data.toList.take k)
    by_cases hlt : k < s.size
    · have HE := Lib.hid (eat_take c s k hlt)
      have hcell := HC.out k hlt
      generalize hx : s[k] = x at hcell
      generalize he : eat c (s.data.toList.take k) = v at hel
      rw [hx, he] at HE
      have hxl := x.toNat_lt
      obtain ⟨I, hI⟩ : ∃ I, I = (v % 256) ^^^ x.toNat := ⟨_, rfl⟩
      have hI8 : I < 256 := by rw [hI]; exact Nat.xor_lt_two_pow (n := 8) (by omega) (by omega)
      have h8 : bits .xor .u8 ((v : Int) % 256) (x.toNat : Int) = (I : Int) := by
        rw [hI, show ((v : Int) % 256) = ((v % 256 : Nat) : Int) from by omega]; exact b8_xor _ _ (by omega) (by omega)
      have h32 : bits .xor .u32 ((turns 8 I : Nat) : Int) ((v : Int) / 256) = ((turns 8 (v ^^^ x.toNat) : Nat) : Int) := tab_step v x.toNat I hel hI hI8
      have htc : wv.cell? ⟨b, I, none⟩ = some (.int .u32 (turns 8 I : Nat)) := by rw [HB.out.cell (p := ⟨b, I, none⟩) hbw]; exact HT.out I hI8
      clear hI
      go_wp2
      go_round
      case rel => exact ⟨k + 1, by omega, by go_num, by rw [HE.out]⟩
      case measure => simp [intOf]; omega
    · obtain rfl : k = s.size := by omega
      go_wp2
      go_ret
      exact ⟨ret_int (by rw [List.take_of_length_le (by simp)]), HB.out⟩
end Go.Proofs.YtbhfbdcmamodcaaGreatDoor
namespace Go.Proofs.YtbhfbdcmamodcaaGreatDoor
open Go.RowKit BlMath
theorem bl_take_byte (t : ByteArray) (k : Nat) (h : k < t.size) : t.data.toList.take (k + 1) = t.data.toList.take k ++ [t[k]] := by
  rw [List.take_succ_eq_append_getElem (by simpa using h)]; rfl
theorem eatH_take (c : Nat) (t : ByteArray) (k : Nat) (h : k < t.size) : eatH c (t.data.toList.take (k + 1)) = mix (eatH c (t.data.toList.take k)) t[k].toNat := by
  rw [bl_take_byte t k h, eatH_snoc]
theorem mix_val (y : Nat) : IntKind.u32.wrap ((y : Int) * 16777619) = ((y * 16777619 % 4294967296 : Nat) : Int) ∧ (y : Int) * 16777619 % 4294967296 = ((y * 16777619 % 4294967296 : Nat) : Int) := by
  rw [IntKind.wrap_u32]; omega
theorem fin1_val (y : Nat) : IntKind.u32.wrap ((y : Int) * 2246822507) = ((y * 2246822507 % 4294967296 : Nat) : Int) ∧ (y : Int) * 2246822507 % 4294967296 = ((y * 2246822507 % 4294967296 : Nat) : Int) := by
  rw [IntKind.wrap_u32]; omega
theorem fin2_val (y : Nat) : IntKind.u32.wrap ((y : Int) * 3266489909) = ((y * 3266489909 % 4294967296 : Nat) : Int) ∧ (y : Int) * 3266489909 % 4294967296 = ((y * 3266489909 % 4294967296 : Nat) : Int) := by
  rw [IntKind.wrap_u32]; omega
theorem seed_val (s : Nat) (hs : s < 4294967296) : bits .xor .u32 2166136261 (s : Int) = ((2166136261 ^^^ s : Nat) : Int) := b32_xor 2166136261 s (by decide) hs
theorem seed_lt (s : Nat) (hs : s < 4294967296) : 2166136261 ^^^ s < 4294967296 := Nat.xor_lt_two_pow (n := 32) (by decide) hs
theorem sh16 (h : Nat) (hh : h < 4294967296) : bits .xor .u32 (h : Int) ((h : Int) / 65536) = ((h ^^^ h / 65536 : Nat) : Int) := by
  have e : ((h : Int) / 65536) = ((h / 65536 : Nat) : Int) := by omega
  rw [e, b32_xor _ _ hh (by omega)]
theorem sh13 (h : Nat) (hh : h < 4294967296) : bits .xor .u32 (h : Int) ((h : Int) / 8192) = ((h ^^^ h / 8192 : Nat) : Int) := by
  have e : ((h : Int) / 8192) = ((h / 8192 : Nat) : Int) := by omega
  rw [e, b32_xor _ _ hh (by omega)]
theorem xs_lt (h d : Nat) (hh : h < 4294967296) : h ^^^ h / d < 4294967296 := Nat.xor_lt_two_pow (n := 32) hh (Nat.lt_of_le_of_lt (Nat.div_le_self _ _) hh)
theorem hash_steps (seed h : Nat) (l : List UInt8) (e : eatH (2166136261 ^^^ seed) l = h) (hl : h < 4294967296) : ∃ y1 h1 y2 h2 : Nat,
    bits .xor .u32 (h : Int) ((h : Int) / 65536) = (y1 : Int) ∧ y1 < 4294967296 ∧ IntKind.u32.wrap ((y1 : Int) * 2246822507) = (h1 : Int) ∧ (y1 : Int) * 2246822507 % 4294967296 = (h1 : Int) ∧ h1 < 4294967296 ∧
    bits .xor .u32 (h1 : Int) ((h1 : Int) / 8192) = (y2 : Int) ∧ y2 < 4294967296 ∧ IntKind.u32.wrap ((y2 : Int) * 3266489909) = (h2 : Int) ∧ (y2 : Int) * 3266489909 % 4294967296 = (h2 : Int) ∧ h2 < 4294967296 ∧
    bits .xor .u32 (h2 : Int) ((h2 : Int) / 65536) = ((hashR seed l : Nat) : Int) :=
  ⟨h ^^^ h / 65536, fin1 h, fin1 h ^^^ fin1 h / 8192, fin2 (fin1 h), sh16 h hl, xs_lt h 65536 hl, (fin1_val _).1, (fin1_val _).2, fin1_lt h, sh13 _ (fin1_lt h), xs_lt _ 8192 (fin1_lt h), (fin2_val _).1, (fin2_val _).2, fin2_lt _, by rw [sh16 _ (fin2_lt _)]; unfold hashR; rw [e]⟩
set_option maxHeartbeats 400000 in
set_option maxRecDepth 100000 in
theorem blHash (seed : Nat) (hs : seed < 4294967296) (s : ByteArray) (hz : s.size ≤ maxLen) (w : World) :
    Calls Tryz.prog 241 #[.int .u32 seed, .string s] w fun e w' => e = .returned (.int .u32 (hashR seed s.data.toList)) ∧ Below w.heap.size w w' := by
  unfold maxLen at hz
  have hcv := fun w => run_bytes_of_string (P := Tryz.prog) w 9 23 5 s Tryz.underlying9 Tryz.underlying23 Tryz.underlying5
  have hsv := seed_val seed hs
  go_enter Tryz.func241, Tryz.ntmps241
  go_wp2
  generalize grownCap w s.size 0 5 = cap
  generalize hwv : (w.alloc (.cells (bytesRow s cap) 5 ((bytesRow s cap).size, (bytesRow s cap).size + 1))).drew = wv
  have HB := Lib.hid (show Below w.heap.size w wv by rw [← hwv]; exact ((Below.refl _ _).alloc (Nat.le_refl _) _).drew)
  have HC := Lib.hid (show ∀ i (h : i < s.size), wv.cell? ⟨w.heap.size, i, none⟩ = some (.int .u8 (s[i].toNat : Nat)) from fun i h => by
    rw [← hwv]; show (w.alloc _).cell? _ = _; rw [World.cell?_alloc_mark, bytesRow_at s _ i h]; rfl)
  clear hwv hcv hsv
  go_loop [5, 13] (fun v i => ∃ k : Nat, k ≤ s.size ∧ i = .int .i64 k ∧ v = .int .u32 (eatH (2166136261 ^^^ seed) (s.data.toList.take k))) (fun _ i => s.size - (intOf i).toNat)
  case atStart => exact ⟨0, Nat.zero_le _, rfl, by simp [eatH]⟩
  case round =>
    obtain ⟨k, hk, rfl, rfl⟩ := hrel
    have hel := eatH_lt (seed_lt seed hs) (s.data.toList.take k)
    by_cases hlt : k < s.size
    · have HE := Lib.hid (eatH_take (2166136261 ^^^ seed) s k hlt)
      have hcell := HC.out k hlt
      generalize hx : s[k] = x at hcell
      generalize he : eatH (2166136261 ^^^ seed) (s.data.toList.take k) = v at hel
      rw [hx, he] at HE
      have hxl := x.toNat_lt
      have h1 : bits .xor .u32 (v : Int) (x.toNat : Int) = ((v ^^^ x.toNat : Nat) : Int) := b32_xor _ _ hel (by omega)
      have hyl : v ^^^ x.toNat < 4294967296 := Nat.xor_lt_two_pow (n := 32) hel (by omega)
      have HM := Lib.hid (show mix v x.toNat = (v ^^^ x.toNat) * 16777619 % 4294967296 from rfl)
      generalize v ^^^ x.toNat = y at h1 hyl HM
      obtain ⟨h2, h3⟩ := mix_val y
      generalize y * 16777619 % 4294967296 = m at h2 h3 HM
      go_wp2
      go_round
      case rel => exact ⟨k + 1, by omega, by go_num, by rw [HE.out, HM.out]⟩
      case measure => simp [intOf]; omega
    · obtain rfl : k = s.size := by omega
      have hte : s.data.toList.take s.size = s.data.toList := List.take_of_length_le (by simp)
      rw [hte] at hel ⊢
      obtain ⟨y1, h1, y2, h2, a1, a2, a3, a4, a5, a6, a7, a8, a9, a10, a11⟩ := hash_steps seed _ s.data.toList rfl hel
      generalize hR : hashR seed s.data.toList = R at *
      have HR := Lib.hid hR
      clear hR
      generalize eatH (2166136261 ^^^ seed) s.data.toList = h at *
      clear hte hlt
      go_wp2
      go_ret
      exact ⟨by rw [HR.out]; rfl, HB.out⟩
end Go.Proofs.YtbhfbdcmamodcaaGreatDoor
namespace Go.Proofs.YtbhfbdcmamodcaaGreatDoor
open Go.RowKit BlMath
def chkR (H P M : Int) : Nat := if H < 1 ∨ 16 < H ∨ P < 1 ∨ 64 < P ∨ M < 0 ∨ 512 < M then 1 else 0
theorem chk_bad {H P M : Int} (h : H < 1 ∨ 16 < H ∨ P < 1 ∨ 64 < P ∨ M < 0 ∨ 512 < M) : chkR H P M = 1 := by unfold chkR; rw [if_pos h]
theorem chk_goodB {H P M : Int} (h : ¬ (H < 1 ∨ 16 < H ∨ P < 1 ∨ 64 < P ∨ M < 0 ∨ 512 < M)) : chkR H P M = 0 := by unfold chkR; rw [if_neg h]
theorem chk_zero {H P M : Int} (h : chkR H P M = 0) : 1 ≤ H ∧ H ≤ 16 ∧ 1 ≤ P ∧ P ≤ 64 ∧ 0 ≤ M ∧ M ≤ 512 := by
  unfold chkR at h
  split at h <;> omega
set_option maxHeartbeats 1000000 in
set_option maxRecDepth 100000 in
theorem blCheck (H P M S : Int) (w : World) :
    Calls Tryz.prog 86 #[.agg #[.int .i64 H, .int .i64 P, .int .i64 M, .int .u32 S]] w fun e w' => e = .returned (.int .i64 (chkR H P M)) ∧ Below w.heap.size w w' := by
  by_cases h0 : H < 1
  · have d0 : decide ((H : Int) < 1) = true := by simpa using h0
    have HR := Lib.hid (chk_bad (H := H) (P := P) (M := M) (by omega))
    go_enter Tryz.func86, Tryz.ntmps86
    go_wp2
    go_ret
    exact ⟨by rw [HR.out]; rfl, (Below.refl _ _).alloc (Nat.le_refl _) _⟩
  have d0 : decide ((H : Int) < 1) = false := by simpa using h0
  by_cases h1 : 16 < H
  · have d1 : decide ((16 : Int) < H) = true := by simpa using h1
    have HR := Lib.hid (chk_bad (H := H) (P := P) (M := M) (by omega))
    go_enter Tryz.func86, Tryz.ntmps86
    go_wp2
    go_ret
    exact ⟨by rw [HR.out]; rfl, (Below.refl _ _).alloc (Nat.le_refl _) _⟩
  have d1 : decide ((16 : Int) < H) = false := by simpa using h1
  by_cases h2 : P < 1
  · have d2 : decide ((P : Int) < 1) = true := by simpa using h2
    have HR := Lib.hid (chk_bad (H := H) (P := P) (M := M) (by omega))
    go_enter Tryz.func86, Tryz.ntmps86
    go_wp2
    go_ret
    exact ⟨by rw [HR.out]; rfl, (Below.refl _ _).alloc (Nat.le_refl _) _⟩
  have d2 : decide ((P : Int) < 1) = false := by simpa using h2
  by_cases h3 : 64 < P
  · have d3 : decide ((64 : Int) < P) = true := by simpa using h3
    have HR := Lib.hid (chk_bad (H := H) (P := P) (M := M) (by omega))
    go_enter Tryz.func86, Tryz.ntmps86
    go_wp2
    go_ret
    exact ⟨by rw [HR.out]; rfl, (Below.refl _ _).alloc (Nat.le_refl _) _⟩
  have d3 : decide ((64 : Int) < P) = false := by simpa using h3
  by_cases h4 : M < 0
  · have d4 : decide ((M : Int) < 0) = true := by simpa using h4
    have HR := Lib.hid (chk_bad (H := H) (P := P) (M := M) (by omega))
    go_enter Tryz.func86, Tryz.ntmps86
    go_wp2
    go_ret
    exact ⟨by rw [HR.out]; rfl, (Below.refl _ _).alloc (Nat.le_refl _) _⟩
  have d4 : decide ((M : Int) < 0) = false := by simpa using h4
  by_cases h5 : 512 < M
  · have d5 : decide ((512 : Int) < M) = true := by simpa using h5
    have HR := Lib.hid (chk_bad (H := H) (P := P) (M := M) (by omega))
    go_enter Tryz.func86, Tryz.ntmps86
    go_wp2
    go_ret
    exact ⟨by rw [HR.out]; rfl, (Below.refl _ _).alloc (Nat.le_refl _) _⟩
  have d5 : decide ((512 : Int) < M) = false := by simpa using h5
  have HR := Lib.hid (chk_goodB (H := H) (P := P) (M := M) (by omega))
  go_enter Tryz.func86, Tryz.ntmps86
  go_wp2
  go_ret
  exact ⟨by rw [HR.out]; rfl, (Below.refl _ _).alloc (Nat.le_refl _) _⟩
end Go.Proofs.YtbhfbdcmamodcaaGreatDoor
