/- The whole: copies of slices; The whole: the bytes of five chunks; The whole: a container's table and data are read; Plain law of layer 15: rows and graph files, and their bytes; The whole: rows as they lie; a good row is found good; The whole: copies of slices of ints and of graphs; The whole: a good graph file is found good; The whole: a row is laid; The whole: five writers side by side; The whole: the bytes of a graph file. -/
import Derived.Test.YtbhfbdcmamodcaaGreatDoorL24
import Derived.Test.YtbhfbdcmamodcaaGreatDoorL40
import Derived.Test.YtbhfbdcmamodcaaGreatDoorL12
import Derived.Test.YtbhfbdcmamodcaaGreatDoorL21
import Derived.Test.YtbhfbdcmamodcaaGreatDoorL18
import Derived.Test.YtbhfbdcmamodcaaGreatDoorL06
set_option linter.unusedVariables false
set_option linter.unusedSimpArgs false
namespace Go.Proofs.YtbhfbdcmamodcaaGreatDoor
open Go.RowKit
set_option maxHeartbeats 1000000 in
set_option maxRecDepth 100000 in
theorem kCloneChunk (l : List Chunk) (a : Option Addr) (c : Nat) (hl : l.length ≤ 1099511627776) (w : World) (h : CellsAt w a (l.flatMap chunkV)) :
    Calls Tryz.prog 200 #[.slice a l.length c] w fun e w' => ∃ v', e = .returned v' ∧ OwnX 243 2 chunkV w' w.heap.size v' l ∧ Below w.heap.size w w' := by
  obtain ⟨i0, hi, hz0, hz1, hz2⟩ := info_parts infoChunk
  have q22 : ∀ (w : World) (a : Option Addr) (n c n' c' : Nat), (binOp .eql 244 (.slice a n c) (.slice none n' c')).run Tryz.prog w = .ok (.bool a.isNone) w := fun w a n c n' c' => Lib.run_eql_slice_nil w _ _ a n c n' c' Tryz.underlying244
  cases a with
  | none =>
    have hl0 : l = [] := by
      have := h.empty
      have hz := flat_length chunkW l
      rw [this] at hz
      cases l with
      | nil => rfl
      | cons x r => simp at hz
    subst hl0
    clear h
    go_enter Tryz.func200, Tryz.ntmps200
    go_wp2
    go_ret
    exact ⟨_, rfl, OwnX.nil _ _ _ _ _, Below.refl _ _⟩
  | some p =>
    have HC := Lib.hid h.src
    clear h
    go_enter Tryz.func200, Tryz.ntmps200
    go_wp2_with (at_builtin; refine wpList_append_own _ rfl _ _ 244 rfl w.heap.size 243 i0 (.agg #[.int .u32 0, .string ⟨#[]⟩]) 2 24 Tryz.underlying244 hi hz0 hz1 hz2 rfl (by decide) _ _ _ rfl (World.ownsRow_made w #[] 0 (Nat.le_refl _) (Nat.zero_le _) (by simp)) p l.length c (l.flatMap chunkV) rfl ?qc1 ?qc2 ?qc3 ?qc4 ?qc5 ?qc6 ?_)
    case qc1 => exact flat_length chunkW l
    case qc2 =>
      intro j u hj
      exact cell_al (HC.out j u hj) _
    case qc3 => exact chunk_one l
    case qc4 => unfold maxLen; omega
    case qc5 => omega
    case qc6 => simp
    intro v' w1 hown hgrow hnil
    go_wp2
    go_ret
    refine ⟨v', rfl, by simpa [OwnX] using hown, ?_⟩
    exact ((Below.refl _ w).alloc (Nat.le_refl _) _).grown hgrow (by simp) (by intro k hk; simp [Value.ownBlock] at hk; omega)
set_option maxHeartbeats 1000000 in
set_option maxRecDepth 100000 in
theorem kCloneLink (l : List Link) (a : Option Addr) (c : Nat) (hl : l.length ≤ 1099511627776) (w : World) (h : CellsAt w a (l.flatMap linkV)) :
    Calls Tryz.prog 89 #[.slice a l.length c] w fun e w' => ∃ v', e = .returned v' ∧ OwnX 149 3 linkV w' w.heap.size v' l ∧ Below w.heap.size w w' := by
  obtain ⟨i0, hi, hz0, hz1, hz2⟩ := info_parts infoLink
  have q22 : ∀ (w : World) (a : Option Addr) (n c n' c' : Nat), (binOp .eql 94 (.slice a n c) (.slice none n' c')).run Tryz.prog w = .ok (.bool a.isNone) w := fun w a n c n' c' => Lib.run_eql_slice_nil w _ _ a n c n' c' Tryz.underlying94
  cases a with
  | none =>
    have hl0 : l = [] := by
      have := h.empty
      have hz := flat_length linkW l
      rw [this] at hz
      cases l with
      | nil => rfl
      | cons x r => simp at hz
    subst hl0
    clear h
    go_enter Tryz.func89, Tryz.ntmps89
    go_wp2
    go_ret
    exact ⟨_, rfl, OwnX.nil _ _ _ _ _, Below.refl _ _⟩
  | some p =>
    have HC := Lib.hid h.src
    clear h
    go_enter Tryz.func89, Tryz.ntmps89
    go_wp2_with (at_builtin; refine wpList_append_own _ rfl _ _ 94 rfl w.heap.size 149 i0 (.agg #[.int .i64 0, .int .i64 0, .int .u32 0]) 3 24 Tryz.underlying94 hi hz0 hz1 hz2 rfl (by decide) _ _ _ rfl (World.ownsRow_made w #[] 0 (Nat.le_refl _) (Nat.zero_le _) (by simp)) p l.length c (l.flatMap linkV) rfl ?qc1 ?qc2 ?qc3 ?qc4 ?qc5 ?qc6 ?_)
    case qc1 => exact flat_length linkW l
    case qc2 =>
      intro j u hj
      exact cell_al (HC.out j u hj) _
    case qc3 => exact link_one l
    case qc4 => unfold maxLen; omega
    case qc5 => omega
    case qc6 => simp
    intro v' w1 hown hgrow hnil
    go_wp2
    go_ret
    refine ⟨v', rfl, by simpa [OwnX] using hown, ?_⟩
    exact ((Below.refl _ w).alloc (Nat.le_refl _) _).grown hgrow (by simp) (by intro k hk; simp [Value.ownBlock] at hk; omega)
end Go.Proofs.YtbhfbdcmamodcaaGreatDoor
namespace Go.Proofs.YtbhfbdcmamodcaaGreatDoor
open Go.RowKit PackMath SumMath
theorem kNum (x : Chunk) (p n : Nat) (w : World) (hc : w.cell? ⟨p, 0, none⟩ = some (.int .u32 (n : Nat))) :
    Calls Tryz.prog 199 #[.agg #[.int .u32 (x.1 : Nat), .string x.2], .pointer (some ⟨p, 0, none⟩)] w fun e w' => e = .returned (.bool (decide (x.1 = n))) ∧ Below w.heap.size w w' := by
  have hw : ∀ o, (w.alloc o).cell? ⟨p, 0, none⟩ = some (.int .u32 (n : Nat)) := fun o => cell_al hc o
  have hd : ((x.1 : Int) == (n : Int)) = decide (x.1 = n) := by rw [Bool.eq_iff_iff]; simp; omega
  go_enter Tryz.func199, Tryz.ntmps199
  go_wp2
  go_ret
  exact ⟨by first | rfl | simp, bl_alloc (Below.refl _ w) _⟩
set_option maxHeartbeats 1000000 in
set_option maxRecDepth 100000 in
theorem kAnyIdx (P : Chunk → Bool) (cap : Value) (l : List Chunk) (a : Option Addr) (c : Nat) (hl : l.length ≤ maxLen) (w : World) (h : CellsAt w a (l.flatMap chunkV))
    (hc : ∀ x ∈ l, ∀ W, Below w.heap.size w W → Calls Tryz.prog 199 #[.agg #[.int .u32 (x.1 : Nat), .string x.2], cap] W fun e w' => e = .returned (.bool (P x)) ∧ Below W.heap.size W w') :
    Calls Tryz.prog 231 #[.slice a l.length c, .func (.func 199) #[] #[cap]] w fun e w' => (∃ k : Int, e = .returned (.int .i64 k) ∧ decide (0 ≤ k) = l.any P) ∧ Below w.heap.size w w' := by
  unfold maxLen at hl
  have HA := Lib.hid h
  have HC := Lib.hid hc
  clear h hc
  go_enter Tryz.func231, Tryz.ntmps231
  go_wp2
  go_loopw [8] (fun iv wr => ∃ k : Nat, k ≤ l.length ∧ iv = .int .i64 k ∧ (∀ i (h : i < l.length), i < k → P l[i] = false) ∧ Below w.heap.size w wr) (fun iv _ => l.length - (intOf iv).toNat)
  case atStart => exact ⟨0, Nat.zero_le _, rfl, fun i _ h => absurd h (Nat.not_lt_zero _), Below.refl _ _⟩
  case round =>
    obtain ⟨k, hk, rfl, hn, hb⟩ := hrel
    have HN := Lib.hid hn; have HB := Lib.hid hb
    clear hn hb
    by_cases hlt : k < l.length
    · obtain ⟨b, off, rfl, _, p1, p2⟩ := chunk_cells (HA.out.below HB.out) hlt
      have HCx := Lib.hid (fun W hW => HC.out l[k] (List.getElem_mem hlt) W hW)
      obtain ⟨x, hx⟩ : ∃ x, l[k] = x := ⟨_, rfl⟩
      rw [hx] at p1 p2 HCx
      have HX := Lib.hid hx
      clear hx
      obtain ⟨r, hr⟩ : ∃ r, P x = r := ⟨_, rfl⟩
      rw [hr] at HCx
      have HR := Lib.hid hr
      clear hr
      cases r with
      | true =>
        go_wp2_with (go_at_call 199; (with_reducible refine (HCx.out _ HB.out).mono ?_); rintro e w2 ⟨rfl, hb⟩; have HB2 := Lib.hid (bl_trans HB.out hb); clear hb)
        go_ret
        refine ⟨⟨_, rfl, ?_⟩, HB2.out⟩
        have : l.any P = true := List.any_eq_true.2 ⟨l[k], List.getElem_mem hlt, by rw [HX.out]; exact HR.out⟩
        rw [this]; simp
      | false =>
        go_wp2_with (go_at_call 199; (with_reducible refine (HCx.out _ HB.out).mono ?_); rintro e w2 ⟨rfl, hb⟩; have HB2 := Lib.hid (bl_trans HB.out hb); clear hb)
        go_roundw
        case rel => exact ⟨k + 1, by omega, by go_num, fun i hi h => by
          rcases Nat.lt_or_ge i k with h1 | h1
          · exact HN.out i hi h1
          · obtain rfl : i = k := by omega
            rw [HX.out]; exact HR.out, HB2.out⟩
        case measure => simp [intOf]; omega
    · obtain rfl : k = l.length := by omega
      go_wp2
      go_ret
      refine ⟨⟨_, rfl, ?_⟩, HB.out⟩
      have : l.any P = false := by
        rw [List.any_eq_false]
        intro x hx
        obtain ⟨i, hi, rfl⟩ := List.mem_iff_getElem.1 hx
        simpa using HN.out i hi hi
      rw [this]; simp
theorem kAnyHas (P : Chunk → Bool) (cap : Value) (l : List Chunk) (a : Option Addr) (c : Nat) (hl : l.length ≤ maxLen) (w : World) (h : CellsAt w a (l.flatMap chunkV))
    (hc : ∀ x ∈ l, ∀ W, Below w.heap.size w W → Calls Tryz.prog 199 #[.agg #[.int .u32 (x.1 : Nat), .string x.2], cap] W fun e w' => e = .returned (.bool (P x)) ∧ Below W.heap.size W w') :
    Calls Tryz.prog 198 #[.slice a l.length c, .func (.func 199) #[] #[cap]] w fun e w' => e = .returned (.bool (l.any P)) ∧ Below w.heap.size w w' := by
  have HI := Lib.hid (kAnyIdx P cap l a c hl w h hc)
  clear h hc
  go_enter Tryz.func198, Tryz.ntmps198
  go_wp2_with (go_at_call 231; (with_reducible refine HI.out.mono ?_); rintro e w2 ⟨⟨k, rfl, hk⟩, hb⟩; have HB := Lib.hid hb; clear hb)
  go_ret
  exact ⟨by rw [← hk]; rfl, HB.out⟩
def chunkT (x : Chunk) : List UInt8 := be x.1 4 ++ be x.2.size 4
def chunkD (x : Chunk) : List UInt8 := x.2.data.toList
def buildH (l : List Chunk) : List UInt8 := [80, 68, 71, 67, 1] ++ be l.length 1 ++ l.flatMap chunkT ++ l.flatMap chunkD
def buildB (l : List Chunk) : List UInt8 := buildH l ++ be (crc (buildH l)) 4
def bulkK (l : List Chunk) : Nat := (l.map (·.2.size)).sum
theorem chunkT_len (l : List Chunk) : (l.flatMap chunkT).length = 8 * l.length := by
  induction l with
  | nil => rfl
  | cons x r ih => rw [List.flatMap_cons, List.length_append, ih]; simp [chunkT, be_length]; omega
theorem chunkD_len (l : List Chunk) : (l.flatMap chunkD).length = bulkK l := by
  induction l with
  | nil => rfl
  | cons x r ih => rw [List.flatMap_cons, List.length_append, ih]; simp [chunkD, bulkK]
theorem buildH_len (l : List Chunk) : (buildH l).length = 6 + 8 * l.length + bulkK l := by
  unfold buildH
  rw [List.length_append, List.length_append, List.length_append, chunkT_len, chunkD_len, be_length]; simp
theorem buildB_len (l : List Chunk) : (buildB l).length = 10 + 8 * l.length + bulkK l := by
  unfold buildB
  rw [List.length_append, buildH_len, be_length]; omega
theorem bulk_take {l : List Chunk} {k : Nat} (h : k < l.length) : bulkK (l.take (k + 1)) = bulkK (l.take k) + l[k].2.size := by
  unfold bulkK
  rw [List.take_succ_eq_append_getElem h, List.map_append, List.sum_append]
  simp only [List.map_cons, List.map_nil, List.sum_cons, List.sum_nil]
  omega
theorem bulk_take_le (l : List Chunk) (k : Nat) : bulkK (l.take k) ≤ bulkK l := by
  have := congrArg bulkK (List.take_append_drop k l)
  simp only [bulkK, List.map_append, List.sum_append] at this ⊢
  omega
theorem chunkT_take {l : List Chunk} {k : Nat} (h : k < l.length) : (l.take (k + 1)).flatMap chunkT = (l.take k).flatMap chunkT ++ chunkT l[k] := by
  rw [List.take_succ_eq_append_getElem h, List.flatMap_append]; simp
theorem chunkD_take {l : List Chunk} {k : Nat} (h : k < l.length) : (l.take (k + 1)).flatMap chunkD = (l.take k).flatMap chunkD ++ chunkD l[k] := by
  rw [List.take_succ_eq_append_getElem h, List.flatMap_append]; simp
theorem Rising.new {l : List Chunk} (h : Rising l) {k : Nat} (hk : k < l.length) : (l.take k).any (fun x => decide (x.1 = l[k].1)) = false := by
  rw [List.any_eq_false]
  intro x hx
  obtain ⟨i, hi, rfl⟩ := List.mem_iff_getElem.1 hx
  simp only [List.length_take] at hi
  rw [List.getElem_take]
  simp only [decide_eq_true_eq]
  intro e
  have := h i k (by omega) hk (by omega)
  omega
set_option maxHeartbeats 8000000 in
set_option maxRecDepth 100000 in
theorem kBuild (l : List Chunk) (hr : Rising l) (h5 : l.length = 5) (hid : ∀ x ∈ l, 1 ≤ x.1 ∧ x.1 < 4294967296) (hbk : bulkK l ≤ 4194254) (a : Option Addr) (c : Nat) (hlc : 5 ≤ c) (hcm : c ≤ maxLen) (w : World) (h : CellsAt w a (l.flatMap chunkV)) :
    Calls Tryz.prog 147 #[.slice a 5 c] w fun e w' => e = .returned (.tuple #[.string ⟨(buildB l).toArray⟩, .int .i64 0]) ∧ Below w.heap.size w w' := by
  unfold maxLen at hcm
  have HA := Lib.hid h; have HR := Lib.hid hr; have HID := Lib.hid hid; have H5 := Lib.hid h5
  have HCl := Lib.hid (fun W (hW : CellsAt W a (l.flatMap chunkV)) => (show Calls Tryz.prog 200 #[.slice a 5 c] W (fun e w' => ∃ v', e = .returned v' ∧ OwnX 243 2 chunkV w' W.heap.size v' l ∧ Below W.heap.size W w') from by have := kCloneChunk l a c (by omega) W hW; rw [h5] at this; exact this))
  have HSo := Lib.hid (fun a2 c2 W (hW : CellsAt W a2 (l.flatMap chunkV)) => kSort l hr h5 a2 c2 W hW)
  obtain ⟨S, hSd⟩ : ∃ S : ByteArray, S = ⟨(buildH l).toArray⟩ := ⟨_, rfl⟩
  have hSl : S.data.toList = buildH l := by rw [hSd]
  have hSz : S.size = 6 + 8 * l.length + bulkK l := by
    have : S.data.toList.length = S.size := by simp
    rw [← this, hSl, buildH_len]
  have HSM := Lib.hid (fun W => sumOne S (by unfold maxLen; omega) W)
  rw [hSl] at HSM
  have hcl := crc_lt (buildH l)
  have HSD := Lib.hid hSd
  have HHL := Lib.hid (buildH_len l)
  clear h hr hid h5 hSd hSl hSz
  go_enter Tryz.func147, Tryz.ntmps147
  go_wp2
  go_loopw [4, 22] (fun zv iv wr => ∃ k : Nat, k ≤ 5 ∧ iv = .int .i64 k ∧ zv = .int .i64 ((50 + bulkK (l.take k) : Nat)) ∧ Below w.heap.size w wr) (fun _ iv _ => 5 - (intOf iv).toNat)
  case atStart => exact ⟨0, Nat.zero_le _, rfl, rfl, Below.refl _ _⟩
  case round =>
    obtain ⟨k, hk, rfl, rfl, hb⟩ := hrel
    have HB := Lib.hid hb
    clear hb
    by_cases hlt : k < 5
    · have hltl : k < l.length := by rw [H5.out]; exact hlt
      obtain ⟨b, off, rfl, _, p1, p2⟩ := chunk_cells (HA.out.below HB.out) hltl
      have HN := Lib.hid (HR.out.new hltl)
      have hi1 := HID.out _ (List.getElem_mem hltl)
      have hs := bulk_take hltl
      have hs2 := bulk_take_le l (k + 1)
      have hlk : (l.take k).length = k := by rw [List.length_take]; omega
      have HK := Lib.hid (fun p W hW => kAnyHas (fun x => decide (x.1 = l[k].1)) (.pointer (some ⟨p, 0, none⟩)) (l.take k) (some ⟨b, off, none⟩) c (by rw [hlk]; unfold maxLen; omega) W (hW : CellsAt W (some ⟨b, off, none⟩) ((l.take k).flatMap chunkV)))
      rw [hlk, HN.out] at HK
      clear HN hlk
      obtain ⟨x, hx⟩ : ∃ x, l[k] = x := ⟨_, rfl⟩
      rw [hx] at p1 p2 hi1 hs HK
      obtain ⟨m, y⟩ := x
      simp only at p1 p2 hi1 hs HK
      have hd1 : ((m : Int) == 0) = false := by simp; omega
      obtain ⟨g, hg⟩ : ∃ g, bulkK (l.take k) = g := ⟨_, rfl⟩
      rw [hg] at hs
      rw [hg]
      rw [hs] at hs2
      have HS := Lib.hid hs
      obtain ⟨W1, hW1⟩ : ∃ W1, wr.alloc (.cells #[.int .u32 (m : Nat), .string y] 243) = W1 := ⟨_, rfl⟩
      have q1 : W1.cell? ⟨wr.heap.size, 0, none⟩ = some (.int .u32 (m : Nat)) := by rw [← hW1, World.cell?_alloc_new]; rfl
      have q2 : W1.cell? ⟨wr.heap.size, 1, none⟩ = some (.string y) := by rw [← hW1, World.cell?_alloc_mark]; rfl
      have HB1 := Lib.hid (show Below w.heap.size w W1 by rw [← hW1]; exact bl_alloc HB.out _)
      have HQ1 := Lib.hid q1; have HQ2 := Lib.hid q2
      have HW1 := Lib.hid hW1
      clear hx hg hW1 hs
      go_wp2_with fail
      rw [HW1.out]
      go_wp2_with fail
      (with_reducible refine (HK.out wr.heap.size W1 ((HA.out.below HB1.out).take k) ?_).mono ?_)
      · intro x hx W hW
        exact kNum x wr.heap.size m W (bl_cell hW HQ1.out)
      rintro e w2 ⟨rfl, hb⟩
      have c2 := bl_cell hb HQ2.out
      have HB2 := Lib.hid (bl_trans HB1.out hb)
      clear hb
      go_wp2
      go_roundw
      case rel => exact ⟨k + 1, by omega, by go_num, by rw [HS.out]; go_num, HB2.out⟩
      case measure => simp [intOf]; omega
    · obtain rfl : k = 5 := by omega
      have hto : bulkK (l.take 5) = bulkK l := by rw [List.take_of_length_le (by rw [H5.out]; exact Nat.le_refl _)]
      rw [hto]
      clear hto
      have hd2 : decide ((((50 + bulkK l : Nat)) : Int) > 4194304) = false := by simp; omega
      have hwl : IntKind.u8.wrap (5 : Int) = 5 := rfl
      go_wp2_with fail
      (with_reducible refine (HCl.out wr (HA.out.below HB.out)).mono ?_)
      rintro e w1 ⟨v1, rfl, ho, hb⟩
      obtain ⟨a2, c2, rfl, hca, hc2, hc3, _, _⟩ := ho.sl
      rw [H5.out]
      have HB1 := Lib.hid (bl_trans HB.out hb); have HA1 := Lib.hid hca
      clear ho hca hb hc2 hc3
      go_wp2_with fail
      (with_reducible refine (HSo.out a2 c2 w1 HA1.out).mono ?_)
      rintro e ws ⟨rfl, hb⟩
      have HBs := Lib.hid (bl_trans HB1.out hb); have HAs := Lib.hid (HA1.out.below hb)
      clear hb
      go_wp2_with (go_at_call 71; (with_reducible refine (wbNew ws ws.heap.size ws (Below.refl _ ws) (Nat.le_refl _)).mono ?_); rintro e w2 ⟨rfl, hh, hb⟩; have H2 := Lib.hid hh; clear hh hb)
      go_wp2_with (go_at_call 75; (with_reducible refine (wbRaw H2.out _ (by decide)).mono ?_); rintro e w3 ⟨rfl, hh⟩; have H3 := Lib.hid (show WB ws.heap.size ws ws.heap.size w3 [80, 68, 71, 67, 1] from hh); clear hh)
      go_wp2_with (go_at_call 74; (with_reducible refine (wbU8 H3.out 5 5 rfl (by omega) (by decide)).mono ?_); rintro e w4 ⟨rfl, hh⟩; have H4 := Lib.hid hh; clear hh)
      go_loopw [59] (fun iv wq => ∃ k : Nat, k ≤ 5 ∧ iv = .int .i64 k ∧ WB ws.heap.size ws ws.heap.size wq ([80, 68, 71, 67, 1] ++ be 5 1 ++ (l.take k).flatMap chunkT)) (fun iv _ => 5 - (intOf iv).toNat)
      case atStart => exact ⟨0, Nat.zero_le _, rfl, by simpa using H4.out⟩
      case round =>
        obtain ⟨k, hk, rfl, hwb⟩ := hrel
        have HW := Lib.hid hwb
        clear hwb
        by_cases hlt : k < 5
        · have hltl : k < l.length := by rw [H5.out]; exact hlt
          obtain ⟨b, off, rfl, _, p1, p2⟩ := chunk_cells (HAs.out.below HW.out.bel) hltl
          have hi1 := (HID.out _ (List.getElem_mem hltl)).2
          have hs2 := Nat.le_trans (bulk_take_le l (k + 1)) hbk
          have hs := bulk_take hltl
          have HS := Lib.hid (chunkT_take hltl)
          have hl0 : ([80, 68, 71, 67, 1] ++ be 5 1 ++ (l.take k).flatMap chunkT).length ≤ 100 := by
            rw [List.length_append, List.length_append, chunkT_len, be_length, List.length_take]; simp; omega
          obtain ⟨x, hx⟩ : ∃ x, l[k] = x := ⟨_, rfl⟩
          rw [hx] at p1 p2 hi1 HS hs
          obtain ⟨m, y⟩ := x
          simp only at p1 p2 hi1 hs
          have hyz : y.size ≤ 4194254 := by omega
          have hwy : IntKind.u32.wrap (y.size : Int) = (y.size : Int) := IntWalk.u32_in _ (by omega)
          obtain ⟨pre, hpre⟩ : ∃ pre, [80, 68, 71, 67, 1] ++ be 5 1 ++ (l.take k).flatMap chunkT = pre := ⟨_, rfl⟩
          have HP := Lib.hid hpre
          rw [hpre] at HW hl0
          have HN := Lib.hid (show [80, 68, 71, 67, 1] ++ be 5 1 ++ (l.take (k + 1)).flatMap chunkT = pre ++ be m 4 ++ be y.size 4 by
            rw [HS.out, ← HP.out]; simp [chunkT])
          obtain ⟨F, hF, hFl, hback⟩ := HW.out.opens
          obtain ⟨W1, hW1⟩ : ∃ W1, wr.alloc (.cells #[.int .u32 (m : Nat), .string y] 243) = W1 := ⟨_, rfl⟩
          have q1 : W1.cell? ⟨wr.heap.size, 0, none⟩ = some (.int .u32 (m : Nat)) := by rw [← hW1, World.cell?_alloc_new]; rfl
          have q2 : W1.cell? ⟨wr.heap.size, 1, none⟩ = some (.string y) := by rw [← hW1, World.cell?_alloc_mark]; rfl
          have hb1 : Below wr.heap.size wr W1 := by rw [← hW1]; exact bl_alloc (Below.refl _ wr) _
          have HG0 := Lib.hid (hF.below hb1).start
          have hnf : ¬ F wr.heap.size := fun e => absurd (hFl _ e) (Nat.lt_irrefl _)
          have HBK := Lib.hid (fun w' cs => hback W1 w' cs hb1)
          have HQ1 := Lib.hid q1; have HQ2 := Lib.hid q2
          have HNF := Lib.hid hnf
          have HW1 := Lib.hid hW1
          clear hx hpre hW1 HS hb1 hF hFl hback hnf hs hs2
          go_wp2_with fail
          rw [HW1.out]
          go_wp2_with fail
          (with_reducible refine (wgU32 HG0.out _ m rfl (by omega) (by omega)).mono ?_)
          rintro e w5 ⟨rfl, hh⟩
          have H5w := Lib.hid hh
          have r1 := hh.cell HNF.out HQ1.out; have r2 := hh.cell HNF.out HQ2.out
          clear q1 q2 hh p1 p2
          go_wp2_with fail
          (with_reducible refine (wgU32 H5w.out _ y.size rfl (by omega) (by rw [List.length_append, be_length]; omega)).mono ?_)
          rintro e w6 ⟨rfl, hh⟩
          have H6 := Lib.hid (HBK.out _ _ hh)
          clear r1 r2 hh
          go_wp2
          go_roundw
          case rel => exact ⟨k + 1, by omega, by go_num, by rw [HN.out]; exact H6.out⟩
          case measure => simp [intOf]; omega
        · obtain rfl : k = 5 := by omega
          have HT5 := Lib.hid (show WB ws.heap.size ws ws.heap.size wr ([80, 68, 71, 67, 1] ++ be 5 1 ++ l.flatMap chunkT) by have := HW.out; rwa [List.take_of_length_le (by rw [H5.out]; exact Nat.le_refl _)] at this)
          clear HW
          rw [show ((5 : Nat) : Int) = (5 : Int) from rfl]
          go_wp2
          go_loopw [76] (fun iv wq => ∃ k : Nat, k ≤ 5 ∧ iv = .int .i64 k ∧ WB ws.heap.size ws ws.heap.size wq ([80, 68, 71, 67, 1] ++ be 5 1 ++ l.flatMap chunkT ++ (l.take k).flatMap chunkD)) (fun iv _ => 5 - (intOf iv).toNat)
          case atStart => exact ⟨0, Nat.zero_le _, rfl, by simpa using HT5.out⟩
          case round =>
            obtain ⟨k, hk, rfl, hwb⟩ := hrel
            have HW := Lib.hid hwb
            clear hwb
            by_cases hlt : k < 5
            · have hltl : k < l.length := by rw [H5.out]; exact hlt
              obtain ⟨b, off, rfl, _, p1, p2⟩ := chunk_cells (HAs.out.below HW.out.bel) hltl
              have hs2 := Nat.le_trans (bulk_take_le l (k + 1)) hbk
              have hs := bulk_take hltl
              have HS := Lib.hid (chunkD_take hltl)
              have hl0 : ([80, 68, 71, 67, 1] ++ be 5 1 ++ l.flatMap chunkT ++ (l.take k).flatMap chunkD).length ≤ 5000000 := by
                have := bulk_take_le l k
                rw [List.length_append, List.length_append, List.length_append, chunkT_len, chunkD_len, be_length, H5.out]; simp; omega
              obtain ⟨x, hx⟩ : ∃ x, l[k] = x := ⟨_, rfl⟩
              rw [hx] at p1 p2 HS hs
              obtain ⟨m, y⟩ := x
              simp only at p1 p2 hs
              have hyz : y.size ≤ 4194254 := by omega
              obtain ⟨pre, hpre⟩ : ∃ pre, [80, 68, 71, 67, 1] ++ be 5 1 ++ l.flatMap chunkT ++ (l.take k).flatMap chunkD = pre := ⟨_, rfl⟩
              have HP := Lib.hid hpre
              rw [hpre] at HW hl0
              have HN := Lib.hid (show [80, 68, 71, 67, 1] ++ be 5 1 ++ l.flatMap chunkT ++ (l.take (k + 1)).flatMap chunkD = pre ++ y.data.toList by
                rw [HS.out, ← HP.out]; simp [chunkD])
              obtain ⟨W1, hW1⟩ : ∃ W1, wr.alloc (.cells #[.int .u32 (m : Nat), .string y] 243) = W1 := ⟨_, rfl⟩
              have q2 : W1.cell? ⟨wr.heap.size, 1, none⟩ = some (.string y) := by rw [← hW1, World.cell?_alloc_mark]; rfl
              have HWa := Lib.hid (show WB ws.heap.size ws ws.heap.size W1 pre by rw [← hW1]; exact HW.out.thenB (bl_alloc (Below.refl _ wr) _))
              have HW1 := Lib.hid hW1
              clear hx hpre hW1 HS hs hs2
              go_wp2_with fail
              rw [HW1.out]
              go_wp2_with fail
              (with_reducible refine (wbRaw HWa.out y (by omega)).mono ?_)
              rintro e w6 ⟨rfl, hh⟩
              have H6 := Lib.hid hh
              clear hh q2 p1 p2
              go_wp2
              go_roundw
              case rel => exact ⟨k + 1, by omega, by go_num, by rw [HN.out]; exact H6.out⟩
              case measure => simp [intOf]; omega
            · obtain rfl : k = 5 := by omega
              have HW5 := Lib.hid (show WB ws.heap.size ws ws.heap.size wr (buildH l) by
                have := HW.out
                rw [List.take_of_length_le (by rw [H5.out]; exact Nat.le_refl _)] at this
                unfold buildH
                rw [H5.out]
                exact this)
              have h5l := H5.out
              go_wp2_with (first
                | (go_at_call 77; (with_reducible refine (wbBytes HW5.out).mono ?_); rintro e w6 ⟨rfl, rfl⟩; rw [← HSD.out])
                | (go_at_call 90; (with_reducible refine (HSM.out wr).mono ?_); rintro e w7 ⟨rfl, hb⟩; have H7 := Lib.hid (HW5.out.thenB hb); clear hb))
              go_wp2_with (go_at_call 76; (with_reducible refine (wbU32 H7.out _ (crc (buildH l)) rfl hcl (by have := HHL.out; omega)).mono ?_); rintro e w8 ⟨rfl, hh⟩; have H8 := Lib.hid (show WB ws.heap.size ws ws.heap.size w8 (buildB l) from hh); clear hh)
              go_wp2_with (go_at_call 77; (with_reducible refine (wbBytes H8.out).mono ?_); rintro e w9 ⟨rfl, rfl⟩)
              go_ret2
              exact ⟨rfl, bl_trans HBs.out H8.out.bel⟩
end Go.Proofs.YtbhfbdcmamodcaaGreatDoor
namespace Go.Proofs.YtbhfbdcmamodcaaGreatDoor
open Go.RowKit PackMath SumMath
theorem OwnX.cell {α : Type} {E : TypeId} {k : Nat} {enc : α → List Value} (hk : Wide enc k) {w : World} {B n g cap : Nat} {l : List α} (h : OwnX E k enc w B (.slice (some ⟨g, 0, none⟩) n cap) l) {i : Nat} (hi : i < l.length) {c : Nat} {v : Value} (hv : (enc l[i])[c]? = some v) :
    w.cell? ⟨g, i * k + c, none⟩ = some v := by
  have hc : c < k := by have := (List.getElem?_eq_some_iff.1 hv).1; rwa [hk] at this
  obtain ⟨a, cc, h1, h2, _⟩ := h.sl
  cases h1
  obtain ⟨b, off, h3, _, h4⟩ := h2.elem hk hi (by omega)
  cases h3
  have := h4 c v hv
  rwa [Nat.zero_add] at this
end Go.Proofs.YtbhfbdcmamodcaaGreatDoor
namespace Go.Proofs.YtbhfbdcmamodcaaGreatDoor
open Go.RowKit PackMath SumMath
structure RowP where
  parents : List Nat
  tree : Nat
  gen : Nat
  st : Nat
  bits : ByteArray
structure SetP where
  H : Nat
  P : Nat
  M : Nat
  S : Nat
structure GraphP where
  base : Nat
  set : SetP
  rows : List RowP
def firstP (r : RowP) : Nat := match r.parents with | [] => 4294967295 | p :: _ => p
def secondP (r : RowP) (e : Nat) : Nat := match r.parents with | [] => 4294967295 | [_] => 4294967295 | [_, q] => q | _ => 2147483648 + e / 4
def edgeT : List Nat → List UInt8
  | [] => []
  | [p] => be (p + 2147483648) 4
  | p :: q :: r => be p 4 ++ edgeT (q :: r)
def edgeR (r : RowP) : List UInt8 := if 2 < r.parents.length then edgeT r.parents.tail else []
def rowB (r : RowP) (e : Nat) : List UInt8 := be r.tree 4 ++ be (firstP r) 4 ++ be (secondP r e) 4 ++ be r.gen 2 ++ be r.st 1
def edgesB (l : List RowP) : List UInt8 := l.flatMap edgeR
def rowsB : List RowP → Nat → List UInt8
  | [], _ => []
  | r :: l, e => rowB r e ++ rowsB l (e + (edgeR r).length)
def bitsB (l : List RowP) : List UInt8 := l.flatMap fun r => r.bits.data.toList
def endsB : List RowP → Nat → List UInt8
  | [], _ => []
  | r :: l, n => be (n + r.bits.size) 4 ++ endsB l (n + r.bits.size)
def headG (g : GraphP) : List UInt8 := be g.base 4 ++ be g.rows.length 4 ++ be g.set.H 1 ++ be g.set.P 1 ++ be g.set.M 2 ++ be g.set.S 4
def chunksG (g : GraphP) : List Chunk := [(1, ⟨(headG g).toArray⟩), (2, ⟨(rowsB g.rows 0).toArray⟩), (3, ⟨(edgesB g.rows).toArray⟩), (4, ⟨(endsB g.rows 0).toArray⟩), (5, ⟨(bitsB g.rows).toArray⟩)]
def graphB (g : GraphP) : List UInt8 := buildB (chunksG g)
theorem edgeT_len : ∀ l : List Nat, (edgeT l).length = 4 * l.length
  | [] => rfl
  | [p] => by simp [edgeT, be_length]
  | p :: q :: r => by
    have := edgeT_len (q :: r)
    simp only [edgeT, List.length_append, be_length, this, List.length_cons]
    omega
theorem edgeR_le (r : RowP) (h : r.parents.length ≤ 16) : (edgeR r).length ≤ 60 := by
  unfold edgeR
  split
  · rw [edgeT_len, List.length_tail]; omega
  · simp
theorem edges_le : ∀ l : List RowP, (∀ r ∈ l, r.parents.length ≤ 16) → (edgesB l).length ≤ 60 * l.length
  | [], _ => by simp [edgesB]
  | r :: l, h => by
    have h1 := edges_le l fun x hx => h x (by simp [hx])
    have h2 := edgeR_le r (h r (by simp))
    unfold edgesB at h1 ⊢
    rw [List.flatMap_cons, List.length_append, List.length_cons]
    omega
theorem rowB_len (r : RowP) (e : Nat) : (rowB r e).length = 15 := by simp [rowB, be_length]
theorem rowsB_len : ∀ (l : List RowP) e, (rowsB l e).length = 15 * l.length
  | [], _ => rfl
  | r :: l, e => by rw [rowsB, List.length_append, rowB_len, rowsB_len l, List.length_cons]; omega
theorem rowsB_append : ∀ (l m : List RowP) e, rowsB (l ++ m) e = rowsB l e ++ rowsB m (e + (edgesB l).length)
  | [], m, e => by simp [rowsB, edgesB]
  | r :: l, m, e => by
    have hh : e + (edgeR r).length + (edgesB l).length = e + (edgesB (r :: l)).length := by unfold edgesB; rw [List.flatMap_cons, List.length_append]; omega
    rw [List.cons_append, rowsB, rowsB, rowsB_append l m, List.append_assoc, hh]
theorem bits_cons (r : RowP) (l : List RowP) : bitsB (r :: l) = r.bits.data.toList ++ bitsB l := rfl
theorem endsB_len : ∀ (l : List RowP) n, (endsB l n).length = 4 * l.length
  | [], _ => rfl
  | r :: l, n => by rw [endsB, List.length_append, be_length, endsB_len l, List.length_cons]; omega
theorem endsB_append : ∀ (l m : List RowP) n, endsB (l ++ m) n = endsB l n ++ endsB m (n + (bitsB l).length)
  | [], m, n => by simp [endsB, bitsB]
  | r :: l, m, n => by
    have hh : n + r.bits.size + (bitsB l).length = n + (bitsB (r :: l)).length := by rw [bits_cons, List.length_append, size_list]; omega
    rw [List.cons_append, endsB, endsB, endsB_append l m, List.append_assoc, hh]
theorem rows_take {l : List RowP} {k : Nat} (h : k < l.length) : rowsB (l.take (k + 1)) 0 = rowsB (l.take k) 0 ++ rowB l[k] (edgesB (l.take k)).length := by
  rw [List.take_succ_eq_append_getElem h, rowsB_append, Nat.zero_add]; simp [rowsB]
theorem edges_take {l : List RowP} {k : Nat} (h : k < l.length) : edgesB (l.take (k + 1)) = edgesB (l.take k) ++ edgeR l[k] := by
  unfold edgesB
  rw [List.take_succ_eq_append_getElem h, List.flatMap_append]; simp
theorem bits_take {l : List RowP} {k : Nat} (h : k < l.length) : bitsB (l.take (k + 1)) = bitsB (l.take k) ++ l[k].bits.data.toList := by
  unfold bitsB
  rw [List.take_succ_eq_append_getElem h, List.flatMap_append]; simp
theorem ends_take {l : List RowP} {k : Nat} (h : k < l.length) : endsB (l.take (k + 1)) 0 = endsB (l.take k) 0 ++ be (bitsB (l.take (k + 1))).length 4 := by
  rw [bits_take h, List.take_succ_eq_append_getElem h, endsB_append, Nat.zero_add, List.length_append, size_list]; simp [endsB]
theorem bits_le (l : List RowP) (k : Nat) : (bitsB (l.take k)).length ≤ (bitsB l).length := by
  have := congrArg (fun x => (bitsB x).length) (List.take_append_drop k l)
  simp only [bitsB, List.flatMap_append, List.length_append] at this ⊢
  omega
theorem edges_lt (l : List RowP) (k : Nat) : (edgesB (l.take k)).length ≤ (edgesB l).length := by
  have := congrArg (fun x => (edgesB x).length) (List.take_append_drop k l)
  simp only [edgesB, List.flatMap_append, List.length_append] at this ⊢
  omega
structure GoodRow (r : RowP) (n : Nat) : Prop where
  few : r.parents.length ≤ 16
  low : ∀ p ∈ r.parents, p < n
  alone : r.parents.Nodup
  tree : r.tree < 65536
  gen : 1 ≤ r.gen ∧ r.gen ≤ 1023
  fil : (r.st = 1 ∧ r.bits.size ≠ 0 ∧ r.bits.size ≤ 4096) ∨ (r.st = 2 ∧ r.bits.size = 0)
structure GoodSet (s : SetP) : Prop where
  H : 1 ≤ s.H ∧ s.H ≤ 16
  P : 1 ≤ s.P ∧ s.P ≤ 64
  M : s.M ≤ 512
  S : s.S < 4294967296
structure GoodGraph (g : GraphP) : Prop where
  few : g.base + g.rows.length ≤ 12000
  rows : ∀ k (h : k < g.rows.length), GoodRow g.rows[k] (g.base + k)
  set : GoodSet g.set
  bits : (bitsB g.rows).length ≤ 3000000
theorem GoodGraph.par {g : GraphP} (h : GoodGraph g) : ∀ r ∈ g.rows, r.parents.length ≤ 16 := by
  intro r hr
  obtain ⟨i, hi, rfl⟩ := List.mem_iff_getElem.1 hr
  exact (h.rows i hi).few
theorem sz (l : List UInt8) : (⟨l.toArray⟩ : ByteArray).size = l.length := by
  show l.toArray.size = _
  simp
theorem headG_len (g : GraphP) : (headG g).length = 16 := by simp [headG, be_length]
theorem chunksG_bulk (g : GraphP) : bulkK (chunksG g) = 16 + 15 * g.rows.length + (edgesB g.rows).length + 4 * g.rows.length + (bitsB g.rows).length := by
  simp only [bulkK, chunksG, List.map_cons, List.map_nil, List.sum_cons, List.sum_nil, sz, headG_len, rowsB_len, endsB_len]
  omega
theorem GoodGraph.small {g : GraphP} (h : GoodGraph g) : bulkK (chunksG g) ≤ 4194254 := by
  rw [chunksG_bulk]
  have := edges_le g.rows h.par
  have := h.few; have := h.bits
  omega
theorem graphB_len (g : GraphP) : (graphB g).length = 50 + bulkK (chunksG g) := by unfold graphB; rw [buildB_len]; rfl
theorem chunksG_id (g : GraphP) : ∀ i (hi : i < (chunksG g).length), (chunksG g)[i].1 = i + 1
  | 0, _ => rfl
  | 1, _ => rfl
  | 2, _ => rfl
  | 3, _ => rfl
  | 4, _ => rfl
  | n + 5, hi => by simp [chunksG] at hi; omega
theorem chunksG_rising (g : GraphP) : Rising (chunksG g) := by
  intro i j hi hj hij
  rw [chunksG_id, chunksG_id]
  omega
theorem chunksG_ids (g : GraphP) : ∀ x ∈ chunksG g, 1 ≤ x.1 ∧ x.1 < 4294967296 := by
  intro x hx
  obtain ⟨i, hi, rfl⟩ := List.mem_iff_getElem.1 hx
  rw [chunksG_id]
  have : i < 5 := hi
  omega
end Go.Proofs.YtbhfbdcmamodcaaGreatDoor
namespace Go.Proofs.YtbhfbdcmamodcaaGreatDoor
open Go.RowKit PackMath
def ParAt (w : World) (v : Value) (ps : List Nat) : Prop := ∃ a c, v = .slice a ps.length c ∧ CellsAt w a (ps.flatMap natV) ∧ ps.length ≤ c ∧ c ≤ maxLen ∧ (a = none → c = 0)
theorem ParAt.below {w x : World} {v : Value} {ps : List Nat} (h : ParAt w v ps) (hb : Below w.heap.size w x) : ParAt x v ps := by
  obtain ⟨a, c, h1, h2, h3⟩ := h
  exact ⟨a, c, h1, h2.below hb, h3⟩
theorem ParAt.own {w : World} {B : Nat} {v : Value} {ps : List Nat} (h : OwnX 3 1 natV w B v ps) : ParAt w v ps := by
  obtain ⟨a, c, h1, h2, h3, h4, _, h6⟩ := h.sl
  subst h1
  refine ⟨a, c, rfl, h2, h3, h4, fun e => ?_⟩
  subst e
  have hl := h6 rfl
  rcases h.2 with ⟨hv, _⟩ | ⟨g, cap, cur, hv, _⟩
  · exact (Value.slice.inj hv).2.2
  · exact absurd (Value.slice.inj hv).1 (by simp)
theorem ints_of {w : World} {a : Option Addr} {ps : List Nat} (h : CellsAt w a (ps.flatMap natV)) (hp : ∀ p ∈ ps, p < 4611686018427387904) : IntsAt w .i64 a (ps.map fun (n : Nat) => (n : Int)) := fun i hi => by
  rw [List.length_map] at hi
  have hb := hp _ (List.getElem_mem hi)
  obtain ⟨b, off, h1, _, h3⟩ := nat_cells h hi
  rw [List.getElem_map]
  exact ⟨WalkArith.wf_i64 (by omega), b, off, h1, h3⟩
def rowC (x : Value × RowP) : List Value := [x.1, .int .i64 (x.2.tree : Nat), .int .i64 (x.2.gen : Nat), .int .i64 (x.2.st : Nat), .string x.2.bits]
theorem rowCW : Wide rowC 5 := fun _ => rfl
def RowsAt (w : World) (a : Option Addr) (rows : List RowP) : Prop := ∃ L : List (Value × RowP), L.map Prod.snd = rows ∧ CellsAt w a (L.flatMap rowC) ∧ ∀ x ∈ L, ParAt w x.1 x.2.parents
theorem RowsAt.below {w x : World} {a : Option Addr} {rows : List RowP} (h : RowsAt w a rows) (hb : Below w.heap.size w x) : RowsAt x a rows := by
  obtain ⟨L, h1, h2, h3⟩ := h
  exact ⟨L, h1, h2.below hb, fun x hx => (h3 x hx).below hb⟩
theorem RowsAt.get {w : World} {a : Option Addr} {rows : List RowP} (h : RowsAt w a rows) {k : Nat} (hk : k < rows.length) :
    ∃ b off pa pc, a = some ⟨b, off, none⟩ ∧ b < w.heap.size ∧ w.cell? ⟨b, off + k * 5, none⟩ = some (.slice pa rows[k].parents.length pc) ∧ w.cell? ⟨b, off + k * 5 + 1, none⟩ = some (.int .i64 (rows[k].tree : Nat)) ∧
      w.cell? ⟨b, off + k * 5 + 2, none⟩ = some (.int .i64 (rows[k].gen : Nat)) ∧ w.cell? ⟨b, off + k * 5 + 3, none⟩ = some (.int .i64 (rows[k].st : Nat)) ∧ w.cell? ⟨b, off + k * 5 + 4, none⟩ = some (.string rows[k].bits) ∧
      CellsAt w pa (rows[k].parents.flatMap natV) ∧ rows[k].parents.length ≤ pc ∧ pc ≤ maxLen ∧ (pa = none → pc = 0) := by
  obtain ⟨L, rfl, h2, h3⟩ := h
  have hk' : k < L.length := by simpa using hk
  obtain ⟨pa, pc, g1, g2, g3, g4, g5⟩ := h3 _ (List.getElem_mem hk')
  obtain ⟨b, off, e1, e2, e3⟩ := h2.elem rowCW hk' (by decide)
  simp only [List.getElem_map]
  refine ⟨b, off, pa, pc, e1, e2, ?_, e3 1 _ rfl, e3 2 _ rfl, e3 3 _ rfl, e3 4 _ rfl, g2, g3, g4, g5⟩
  have := e3 0 _ rfl
  rw [g1] at this
  exact this
theorem mem_take_no {ps : List Nat} (h : ps.Nodup) {k : Nat} (hk : k < ps.length) : memB (ps[k] : Int) ((ps.map fun (n : Nat) => (n : Int)).take k) = false := by
  apply decide_eq_false
  intro hm
  obtain ⟨i, hi, he⟩ := List.mem_iff_getElem.1 hm
  rw [List.length_take, List.length_map] at hi
  rw [List.getElem_take, List.getElem_map] at he
  have hn := List.nodup_iff_pairwise_ne.1 h
  rw [List.pairwise_iff_getElem] at hn
  exact hn i k (by omega) hk (by omega) (by omega)
set_option maxHeartbeats 4000000 in
set_option maxRecDepth 100000 in
theorem gGoodRow (r : RowP) (n : Nat) (hg : GoodRow r n) (hn : n ≤ 1000000) (pa : Option Addr) (pc : Nat) (hpc : r.parents.length ≤ pc) (hpm : pc ≤ maxLen) (w : World) (h : CellsAt w pa (r.parents.flatMap natV)) :
    Calls Tryz.prog 197 #[.agg #[.slice pa r.parents.length pc, .int .i64 (r.tree : Nat), .int .i64 (r.gen : Nat), .int .i64 (r.st : Nat), .string r.bits], .int .i64 n] w fun e w' => e = .returned (.bool true) ∧ Below w.heap.size w w' := by
  unfold maxLen at hpm
  obtain ⟨ps, tr, ge, st, bits⟩ := r
  obtain ⟨h1, h2, h3, h4, ⟨h5, h6⟩, h7⟩ := hg
  simp only at h1 h2 h3 h4 h5 h6 h7 hpc h ⊢
  have d1 : decide ((ps.length : Int) > 16) = false := by simp; omega
  have d2 : decide ((tr : Int) < 0) = false := by simp
  have d3 : decide ((tr : Int) ≥ 65536) = false := by simp; omega
  have d4 : decide ((ge : Int) < 1) = false := by simp; omega
  have d5 : decide ((ge : Int) > 1023) = false := by simp; omega
  obtain ⟨W1, hW1⟩ : ∃ W1, w.alloc (.cells #[.slice pa ps.length pc, .int .i64 (tr : Nat), .int .i64 (ge : Nat), .int .i64 (st : Nat), .string bits] 188) = W1 := ⟨_, rfl⟩
  have hb1 : Below w.heap.size w W1 := by rw [← hW1]; exact bl_alloc (Below.refl _ w) _
  have q0 : W1.cell? ⟨w.heap.size, 0, none⟩ = some (.slice pa ps.length pc) := by rw [← hW1, World.cell?_alloc_new]; rfl
  have q1 : W1.cell? ⟨w.heap.size, 1, none⟩ = some (.int .i64 (tr : Nat)) := by rw [← hW1, World.cell?_alloc_mark]; rfl
  have q2 : W1.cell? ⟨w.heap.size, 2, none⟩ = some (.int .i64 (ge : Nat)) := by rw [← hW1, World.cell?_alloc_mark]; rfl
  have q3 : W1.cell? ⟨w.heap.size, 3, none⟩ = some (.int .i64 (st : Nat)) := by rw [← hW1, World.cell?_alloc_mark]; rfl
  have q4 : W1.cell? ⟨w.heap.size, 4, none⟩ = some (.string bits) := by rw [← hW1, World.cell?_alloc_mark]; rfl
  have HA := Lib.hid (h.below hb1)
  have HB1 := Lib.hid hb1
  have HLow := Lib.hid h2; have HAl := Lib.hid h3
  have HF := Lib.hid (gGoodFilter st bits h7 W1)
  have HW1 := Lib.hid hW1
  clear h hW1 hb1 h2 h3 h7
  go_enter Tryz.func197, Tryz.ntmps197
  go_wp2_with fail
  rw [HW1.out]
  go_wp2
  go_loopw [34] (fun iv wr => ∃ k : Nat, k ≤ ps.length ∧ iv = .int .i64 k ∧ wr = W1) (fun iv _ => ps.length - (intOf iv).toNat)
  case atStart => exact ⟨0, Nat.zero_le _, rfl, rfl⟩
  case round =>
    obtain ⟨k, hk, rfl, rfl⟩ := hrel
    by_cases hlt : k < ps.length
    · obtain ⟨b, off, rfl, _, p1⟩ := nat_cells HA.out hlt
      have hlow := HLow.out _ (List.getElem_mem hlt)
      have HC := Lib.hid (cContains_at wr (ps[k] : Int) ((ps.map fun (n : Nat) => (n : Int)).take k) (some ⟨b, off, none⟩) k pc k rfl (by rw [List.length_take, List.length_map]; omega) (by rw [List.length_take, List.length_map]; unfold maxLen; omega) ((ints_of HA.out (fun p hp => by have := HLow.out p hp; omega)).take wr k))
      rw [mem_take_no HAl.out hlt] at HC
      obtain ⟨x, hx⟩ : ∃ x, ps[k] = x := ⟨_, rfl⟩
      rw [hx] at p1 hlow HC
      have e1 : decide ((x : Int) < 0) = false := by simp
      have e2 : decide ((x : Int) ≥ (n : Int)) = false := by simp; omega
      have e3 : decide (n ≤ x) = false := by simp; omega
      clear hx
      go_wp2_with (go_at_call 142; (with_reducible refine HC.out.mono ?_); rintro e w2 ⟨rfl, rfl⟩)
      go_roundw
      case rel => exact ⟨k + 1, by omega, by go_num, by first | rfl | trivial⟩
      case measure => simp [intOf]; omega
    · go_wp2_with (go_at_call 230; (with_reducible refine HF.out.mono ?_); rintro e w2 ⟨rfl, hb⟩; have HB2 := Lib.hid (bl_trans HB1.out hb); clear hb)
      go_ret
      exact ⟨rfl, HB2.out⟩
end Go.Proofs.YtbhfbdcmamodcaaGreatDoor
namespace Go.Proofs.YtbhfbdcmamodcaaGreatDoor
open Go.RowKit
structure GrE where
  a : Option Addr
  n : Nat
  c : Nat
  g : GraphP
def graphC (x : GrE) : List Value := [.int .i64 (x.g.base : Nat), .int .i64 (x.g.set.H : Nat), .int .i64 (x.g.set.P : Nat), .int .i64 (x.g.set.M : Nat), .int .u32 (x.g.set.S : Nat), .slice x.a x.n x.c]
theorem graphCW : Wide graphC 6 := fun _ => rfl
theorem graphC_one (l : List GrE) : ∀ u ∈ l.flatMap graphC, u.oneCell' = true := by
  intro u hu
  obtain ⟨x, _, hx⟩ := List.mem_flatMap.1 hu
  simp only [graphC, List.mem_cons, List.not_mem_nil, or_false] at hx
  rcases hx with rfl | rfl | rfl | rfl | rfl | rfl <;> rfl
theorem infoGraphC : (Tryz.prog.info? 103).map (fun i => (i.zero, i.size, i.bytes)) = some (some (.agg #[.int .i64 0, .int .i64 0, .int .i64 0, .int .i64 0, .int .u32 0, .slice none 0 0]), 6, 64) := by kernel_rfl
theorem infoIntC : (Tryz.prog.info? 3).map (fun i => (i.zero, i.size, i.bytes)) = some (some (.int .i64 0), 1, 8) := by kernel_rfl
set_option maxHeartbeats 1000000 in
set_option maxRecDepth 100000 in
theorem kCloneInt (l : List Nat) (a : Option Addr) (c : Nat) (hl : l.length ≤ 1099511627776) (w : World) (h : CellsAt w a (l.flatMap natV)) :
    Calls Tryz.prog 39 #[.slice a l.length c] w fun e w' => ∃ v', e = .returned v' ∧ OwnX 3 1 natV w' w.heap.size v' l ∧ Below w.heap.size w w' := by
  obtain ⟨i0, hi, hz0, hz1, hz2⟩ := info_parts infoIntC
  have q22 : ∀ (w : World) (a : Option Addr) (n c n' c' : Nat), (binOp .eql 42 (.slice a n c) (.slice none n' c')).run Tryz.prog w = .ok (.bool a.isNone) w := fun w a n c n' c' => Lib.run_eql_slice_nil w _ _ a n c n' c' Tryz.underlying42
  cases a with
  | none =>
    have hl0 : l = [] := by
      have := h.empty
      have hz := flat_length natW l
      rw [this] at hz
      cases l with
      | nil => rfl
      | cons x r => simp at hz
    subst hl0
    clear h
    go_enter Tryz.func39, Tryz.ntmps39
    go_wp2
    go_ret
    exact ⟨_, rfl, OwnX.nil _ _ _ _ _, Below.refl _ _⟩
  | some p =>
    have HC := Lib.hid h.src
    clear h
    go_enter Tryz.func39, Tryz.ntmps39
    go_wp2_with (at_builtin; refine wpList_append_own _ rfl _ _ 42 rfl w.heap.size 3 i0 (.int .i64 0) 1 8 Tryz.underlying42 hi hz0 hz1 hz2 rfl (by decide) _ _ _ rfl (World.ownsRow_made w #[] 0 (Nat.le_refl _) (Nat.zero_le _) (by simp)) p l.length c (l.flatMap natV) rfl ?qc1 ?qc2 ?qc3 ?qc4 ?qc5 ?qc6 ?_)
    case qc1 => exact flat_length natW l
    case qc2 =>
      intro j u hj
      exact cell_al (HC.out j u hj) _
    case qc3 => exact nat_one l
    case qc4 => unfold maxLen; omega
    case qc5 => omega
    case qc6 => simp
    intro v' w1 hown hgrow hnil
    go_wp2
    go_ret
    refine ⟨v', rfl, by simpa [OwnX] using hown, ?_⟩
    exact ((Below.refl _ w).alloc (Nat.le_refl _) _).grown hgrow (by simp) (by intro k hk; simp [Value.ownBlock] at hk; omega)
set_option maxHeartbeats 1000000 in
set_option maxRecDepth 100000 in
theorem kCloneGraph (l : List GrE) (a : Option Addr) (c : Nat) (hl : l.length ≤ 1099511627776) (w : World) (h : CellsAt w a (l.flatMap graphC)) :
    Calls Tryz.prog 95 #[.slice a l.length c] w fun e w' => ∃ v', e = .returned v' ∧ OwnX 103 6 graphC w' w.heap.size v' l ∧ Below w.heap.size w w' := by
  obtain ⟨i0, hi, hz0, hz1, hz2⟩ := info_parts infoGraphC
  have q22 : ∀ (w : World) (a : Option Addr) (n c n' c' : Nat), (binOp .eql 95 (.slice a n c) (.slice none n' c')).run Tryz.prog w = .ok (.bool a.isNone) w := fun w a n c n' c' => Lib.run_eql_slice_nil w _ _ a n c n' c' Tryz.underlying95
  cases a with
  | none =>
    have hl0 : l = [] := by
      have := h.empty
      have hz := flat_length graphCW l
      rw [this] at hz
      cases l with
      | nil => rfl
      | cons x r => simp at hz
    subst hl0
    clear h
    go_enter Tryz.func95, Tryz.ntmps95
    go_wp2
    go_ret
    exact ⟨_, rfl, OwnX.nil _ _ _ _ _, Below.refl _ _⟩
  | some p =>
    have HC := Lib.hid h.src
    clear h
    go_enter Tryz.func95, Tryz.ntmps95
    go_wp2_with (at_builtin; refine wpList_append_own _ rfl _ _ 95 rfl w.heap.size 103 i0 (.agg #[.int .i64 0, .int .i64 0, .int .i64 0, .int .i64 0, .int .u32 0, .slice none 0 0]) 6 64 Tryz.underlying95 hi hz0 hz1 hz2 rfl (by decide) _ _ _ rfl (World.ownsRow_made w #[] 0 (Nat.le_refl _) (Nat.zero_le _) (by simp)) p l.length c (l.flatMap graphC) rfl ?qc1 ?qc2 ?qc3 ?qc4 ?qc5 ?qc6 ?_)
    case qc1 => exact flat_length graphCW l
    case qc2 =>
      intro j u hj
      exact cell_al (HC.out j u hj) _
    case qc3 => exact graphC_one l
    case qc4 => unfold maxLen; omega
    case qc5 => omega
    case qc6 => simp
    intro v' w1 hown hgrow hnil
    go_wp2
    go_ret
    refine ⟨v', rfl, by simpa [OwnX] using hown, ?_⟩
    exact ((Below.refl _ w).alloc (Nat.le_refl _) _).grown hgrow (by simp) (by intro k hk; simp [Value.ownBlock] at hk; omega)
end Go.Proofs.YtbhfbdcmamodcaaGreatDoor
namespace Go.Proofs.YtbhfbdcmamodcaaGreatDoor
open Go.RowKit PackMath BlMath
theorem set_chk {s : SetP} (h : GoodSet s) : chkR (s.H : Int) (s.P : Int) (s.M : Int) = 0 := chk_goodB (by have := h.H; have := h.P; have := h.M; omega)
set_option maxHeartbeats 4000000 in
set_option maxRecDepth 100000 in
theorem gCheck (g : GraphP) (hg : GoodGraph g) (a : Option Addr) (c : Nat) (hc : g.rows.length ≤ c) (hcm : c ≤ maxLen) (w : World) (h : RowsAt w a g.rows) :
    Calls Tryz.prog 144 #[.agg #[.int .i64 (g.base : Nat), .int .i64 (g.set.H : Nat), .int .i64 (g.set.P : Nat), .int .i64 (g.set.M : Nat), .int .u32 (g.set.S : Nat), .slice a g.rows.length c]] w fun e w' => e = .returned (.int .i64 0) ∧ Below w.heap.size w w' := by
  unfold maxLen at hcm
  obtain ⟨ba, ⟨H, P, M, S⟩, rows⟩ := g
  have hfew := hg.few
  have HG := Lib.hid hg.rows
  have HCk := Lib.hid (fun W => blCheck (H : Int) (P : Int) (M : Int) (S : Int) W)
  rw [set_chk hg.set] at HCk
  simp only at hfew HG hc h ⊢
  have d1 : decide ((ba : Int) < 0) = false := by simp
  have d2 : decide ((ba : Int) > 65536) = false := by simp; omega
  have d3 : decide ((rows.length : Int) > 65536 - (ba : Int)) = false := by simp; omega
  have hw1 : wrap64 (65536 - (ba : Int)) = 65536 - (ba : Int) := IntWalk.wrap64_in _ (by omega)
  obtain ⟨W1, hW1⟩ : ∃ W1, w.alloc (.cells #[.int .i64 (ba : Nat), .int .i64 (H : Nat), .int .i64 (P : Nat), .int .i64 (M : Nat), .int .u32 (S : Nat), .slice a rows.length c] 103) = W1 := ⟨_, rfl⟩
  have hb1 : Below w.heap.size w W1 := by rw [← hW1]; exact bl_alloc (Below.refl _ w) _
  have q0 : W1.cell? ⟨w.heap.size, 0, none⟩ = some (.int .i64 (ba : Nat)) := by rw [← hW1, World.cell?_alloc_new]; rfl
  have q1 : W1.cell? ⟨w.heap.size, 1, none⟩ = some (.int .i64 (H : Nat)) := by rw [← hW1, World.cell?_alloc_mark]; rfl
  have q2 : W1.cell? ⟨w.heap.size, 2, none⟩ = some (.int .i64 (P : Nat)) := by rw [← hW1, World.cell?_alloc_mark]; rfl
  have q3 : W1.cell? ⟨w.heap.size, 3, none⟩ = some (.int .i64 (M : Nat)) := by rw [← hW1, World.cell?_alloc_mark]; rfl
  have q4 : W1.cell? ⟨w.heap.size, 4, none⟩ = some (.int .u32 (S : Nat)) := by rw [← hW1, World.cell?_alloc_mark]; rfl
  have q5 : W1.cell? ⟨w.heap.size, 5, none⟩ = some (.slice a rows.length c) := by rw [← hW1, World.cell?_alloc_mark]; rfl
  have HQ := Lib.hid (show (∀ W, Below W1.heap.size W1 W → W.cell? ⟨w.heap.size, 0, none⟩ = some (.int .i64 (ba : Nat)) ∧ W.cell? ⟨w.heap.size, 1, none⟩ = some (.int .i64 (H : Nat)) ∧ W.cell? ⟨w.heap.size, 2, none⟩ = some (.int .i64 (P : Nat)) ∧ W.cell? ⟨w.heap.size, 3, none⟩ = some (.int .i64 (M : Nat)) ∧ W.cell? ⟨w.heap.size, 4, none⟩ = some (.int .u32 (S : Nat))) from fun W hW => ⟨bl_cell hW q0, bl_cell hW q1, bl_cell hW q2, bl_cell hW q3, bl_cell hW q4⟩)
  have HR := Lib.hid (h.below hb1)
  have HB1 := Lib.hid hb1
  have HW1 := Lib.hid hW1
  clear h hW1 hb1 hg
  go_enter Tryz.func144, Tryz.ntmps144
  go_wp2_with fail
  rw [HW1.out]
  clear q1 q2 q3 q4
  go_wp2
  go_loopw [25] (fun iv wr => ∃ k : Nat, k ≤ rows.length ∧ iv = .int .i64 k ∧ Below W1.heap.size W1 wr) (fun iv _ => rows.length - (intOf iv).toNat)
  case atStart => exact ⟨0, Nat.zero_le _, rfl, Below.refl _ _⟩
  case round =>
    obtain ⟨k, hk, rfl, hb⟩ := hrel
    have HB := Lib.hid hb
    obtain ⟨s0, s1, s2, s3, s4⟩ := HQ.out wr hb
    have hws := hb.size
    clear hb q0 q5
    by_cases hlt : k < rows.length
    · obtain ⟨b, off, pa, pc, rfl, hbl, p0, p1, p2, p3, p4, hca, hpc1, hpc2, _⟩ := (HR.out.below HB.out).get hlt
      have hgr := HG.out k hlt
      obtain ⟨x, hx⟩ : ∃ x, rows[k] = x := ⟨_, rfl⟩
      rw [hx] at p0 p1 p2 p3 p4 hca hpc1 hgr
      obtain ⟨W2, hW2⟩ : ∃ W2, wr.alloc (.cells #[.slice pa x.parents.length pc, .int .i64 (x.tree : Nat), .int .i64 (x.gen : Nat), .int .i64 (x.st : Nat), .string x.bits] 188) = W2 := ⟨_, rfl⟩
      have r0 : W2.cell? ⟨wr.heap.size, 0, none⟩ = some (.slice pa x.parents.length pc) := by rw [← hW2, World.cell?_alloc_new]; rfl
      have r1 : W2.cell? ⟨wr.heap.size, 1, none⟩ = some (.int .i64 (x.tree : Nat)) := by rw [← hW2, World.cell?_alloc_mark]; rfl
      have r2 : W2.cell? ⟨wr.heap.size, 2, none⟩ = some (.int .i64 (x.gen : Nat)) := by rw [← hW2, World.cell?_alloc_mark]; rfl
      have r3 : W2.cell? ⟨wr.heap.size, 3, none⟩ = some (.int .i64 (x.st : Nat)) := by rw [← hW2, World.cell?_alloc_mark]; rfl
      have r4 : W2.cell? ⟨wr.heap.size, 4, none⟩ = some (.string x.bits) := by rw [← hW2, World.cell?_alloc_mark]; rfl
      have hb2 : Below wr.heap.size wr W2 := by rw [← hW2]; exact bl_alloc (Below.refl _ wr) _
      have t0 : W2.cell? ⟨w.heap.size, 0, none⟩ = some (.int .i64 (ba : Nat)) := bl_cell hb2 s0
      have hwl : w.heap.size < wr.heap.size := World.block_lt_of_cell? wr _ s0
      have HB2 := Lib.hid (bl_trans HB.out hb2)
      have HGR := Lib.hid (gGoodRow x (ba + k) hgr (by omega) pa pc hpc1 hpc2 W2 (hca.below hb2))
      have hcast : ((ba : Int) + (k : Int)) = ((ba + k : Nat) : Int) := by omega
      have HW2 := Lib.hid hW2
      rw [← hcast] at HGR
      clear hx hW2 hb2 hca hgr s1 s2 s3 s4 hcast
      go_wp2_with fail
      rw [HW2.out]
      go_wp2_with fail
      (with_reducible refine HGR.out.mono ?_)
      rintro e w3 ⟨rfl, hb⟩
      have HB3 := Lib.hid (bl_trans HB2.out hb)
      clear hb
      go_wp2
      go_roundw
      case rel => exact ⟨k + 1, by omega, by go_num, HB3.out⟩
      case measure => simp [intOf]; omega
    · go_wp2_with (go_at_call 86; (with_reducible refine (HCk.out _).mono ?_); rintro e w2 ⟨rfl, hb⟩; have HB2 := Lib.hid (bl_trans HB1.out (bl_trans HB.out hb)); clear hb)
      go_ret
      exact ⟨rfl, HB2.out⟩
end Go.Proofs.YtbhfbdcmamodcaaGreatDoor
namespace Go.Proofs.YtbhfbdcmamodcaaGreatDoor
open Go.RowKit PackMath
structure RW (w : World) (p : Nat) (rb : List UInt8) (F : Foot) (q : Nat) (eb : List UInt8) (G : Foot) : Prop where
  one : WR w p rb F
  two : WR w q eb G
  apart : Apart F G
def RowLaid (p : Nat) (rb : List UInt8) (F : Foot) (q : Nat) (eb : List UInt8) (G : Foot) (w w' : World) : Prop :=
  ∃ F' G', RW w' p rb F' q eb G' ∧ Upd (fun k => F k ∨ G k) w w' ∧ (∀ k, F' k → F k ∨ w.heap.size ≤ k) ∧ (∀ k, G' k → G k ∨ w.heap.size ≤ k)
theorem row_done {w W1 w2 w3 : World} {p q : Nat} {rb rb' eb' eb : List UInt8} {F G : Foot} (h : RW w p rb F q eb G) (hb : Below w.heap.size w W1) (k : WG G W1 q w2 eb') (m : WG F w2 p w3 rb') : RowLaid p rb' F q eb' G w w3 := by
  obtain ⟨G', k1, k2⟩ := k
  obtain ⟨F', m1, m2⟩ := m
  have hs := hb.size
  have hz := k2.upd.size
  have hG : ∀ i, G' i → G i ∨ w.heap.size ≤ i := fun i e => (k2.sub i e).imp id (fun e => by omega)
  have hap : Apart F G' := fun i a b => by
    rcases k2.sub i b with e | e
    · exact h.apart i a e
    · have := h.one.lt i a; omega
  have hst : Stays G' w2 w3 := m2.upd.stays hap k1.lt
  refine ⟨F', G', ⟨m1, k1.stays hst, fun i a b => ?_⟩, ?_, fun i e => (m2.sub i e).imp id (fun e => by omega), hG⟩
  · rcases m2.sub i a with e | e
    · exact hap i e b
    · have := k1.lt i b; omega
  · exact (((Upd.of (F := fun i => F i ∨ G i) hb).trans (k2.upd.mono (fun i e => Or.inr e)) (fun i e => .inl e))).trans (m2.upd.mono (fun i e => Or.inl e)) (fun i e => .inl e)
theorem row_next {w W1 w2 : World} {p q : Nat} {rb eb' eb : List UInt8} {F G : Foot} (h : RW w p rb F q eb G) (hb : Below w.heap.size w W1) (k : WG G W1 q w2 eb') : WG F w2 p w2 rb := by
  obtain ⟨G', k1, k2⟩ := k
  have hs := hb.size
  exact ((h.one.below hb).stays (k2.upd.stays h.apart.symm (fun i e => by have := h.one.lt i e; omega))).start
theorem edgeT_last : ∀ (l : List Nat) (hl : l ≠ []), edgeT l = l.dropLast.flatMap (fun p => be p 4) ++ be (l.getLast hl + 2147483648) 4
  | [], h => absurd rfl h
  | [p], _ => by simp [edgeT]
  | p :: q :: r, _ => by
    rw [edgeT, edgeT_last (q :: r) (by simp), List.dropLast_cons_cons, List.flatMap_cons, List.getLast_cons (List.cons_ne_nil q r), List.append_assoc]
theorem rowB_three (r : RowP) (e x0 : Nat) (hn : 2 < r.parents.length) (hx : r.parents[0]? = some x0) : rowB r e = be r.tree 4 ++ (be x0 4 ++ (be (2147483648 + e / 4) 4 ++ (be r.gen 2 ++ be r.st 1))) := by
  obtain ⟨ps, tr, ge, st, bits⟩ := r
  simp only at hn hx
  match ps, hn, hx with
  | x :: y :: z :: r, _, hx =>
    simp at hx
    subst hx
    simp [rowB, firstP, secondP]
set_option maxHeartbeats 8000000 in
set_option maxRecDepth 100000 in
theorem gRow0 (p q : Nat) (rb eb : List UInt8) (F G : Foot) (hrb : rb.length ≤ 1000000) (heb : eb.length ≤ 1000000) (r : RowP) (hpl : ∀ x ∈ r.parents, x < 1000000) (ht : r.tree < 65536) (hg : r.gen < 65536) (hst : r.st < 256) (hn : r.parents = []) (pa : Option Addr) (pc : Nat) (hpc : r.parents.length ≤ pc) (hpm : pc ≤ maxLen) (w : World) (h : RW w p rb F q eb G) (hc : CellsAt w pa (r.parents.flatMap natV)) :
    Calls Tryz.prog 145 #[.pointer (some ⟨p, 0, none⟩), .pointer (some ⟨q, 0, none⟩), .agg #[.slice pa r.parents.length pc, .int .i64 (r.tree : Nat), .int .i64 (r.gen : Nat), .int .i64 (r.st : Nat), .string r.bits]] w fun e w' => e = .returned (.tuple #[]) ∧ RowLaid p (rb ++ rowB r eb.length) F q (eb ++ edgeR r) G w w' := by
  unfold maxLen at hpm
  obtain ⟨ps, tr, ge, st, bits⟩ := r
  simp only at hpl ht hg hst hn hpc hc ⊢
  subst hn
  show Calls _ _ #[_, _, .agg #[.slice pa 0 pc, _, _, _, _]] _ _
  obtain ⟨W1, hW1⟩ : ∃ W1, w.alloc (.cells #[.slice pa 0 pc, .int .i64 (tr : Nat), .int .i64 (ge : Nat), .int .i64 (st : Nat), .string bits] 188) = W1 := ⟨_, rfl⟩
  have hb1 : Below w.heap.size w W1 := by rw [← hW1]; exact bl_alloc (Below.refl _ w) _
  have q0 : W1.cell? ⟨w.heap.size, 0, none⟩ = some (.slice pa 0 pc) := by rw [← hW1, World.cell?_alloc_new]; rfl
  have q1 : W1.cell? ⟨w.heap.size, 1, none⟩ = some (.int .i64 (tr : Nat)) := by rw [← hW1, World.cell?_alloc_mark]; rfl
  have q2 : W1.cell? ⟨w.heap.size, 2, none⟩ = some (.int .i64 (ge : Nat)) := by rw [← hW1, World.cell?_alloc_mark]; rfl
  have q3 : W1.cell? ⟨w.heap.size, 3, none⟩ = some (.int .i64 (st : Nat)) := by rw [← hW1, World.cell?_alloc_mark]; rfl
  have hnF : ¬ F w.heap.size := fun e => absurd (h.one.lt _ e) (Nat.lt_irrefl _)
  have hnG : ¬ G w.heap.size := fun e => absurd (h.two.lt _ e) (Nat.lt_irrefl _)
  have HQ := Lib.hid (show W1.cell? ⟨w.heap.size, 0, none⟩ = some (.slice pa 0 pc) ∧ W1.cell? ⟨w.heap.size, 1, none⟩ = some (.int .i64 (tr : Nat)) ∧ W1.cell? ⟨w.heap.size, 2, none⟩ = some (.int .i64 (ge : Nat)) ∧ W1.cell? ⟨w.heap.size, 3, none⟩ = some (.int .i64 (st : Nat)) from ⟨q0, q1, q2, q3⟩)
  have HA0 := Lib.hid hc
  have HA := Lib.hid (hc.below hb1)
  have HB1 := Lib.hid hb1
  have HH := Lib.hid h
  have HnF := Lib.hid hnF; have HnG := Lib.hid hnG
  have HG1 := Lib.hid (h.two.below hb1).start
  have hwt : IntKind.u32.wrap (tr : Int) = (tr : Int) := IntWalk.u32_in _ (by omega)
  have hwg : IntKind.u16.wrap (ge : Int) = (ge : Int) := IntWalk.u16_in _ (by omega)
  have hws : IntKind.u8.wrap (st : Int) = (st : Int) := IntWalk.u8_in _ (by omega)
  have HPL := Lib.hid hpl
  have HW1 := Lib.hid hW1
  clear h hc hW1 hb1 hnF hnG hpl
  have C1_0 := Lib.hid q1; have C2_0 := Lib.hid q2; have C3_0 := Lib.hid q3
  go_enter Tryz.func145, Tryz.ntmps145
  go_wp2_with fail
  rw [HW1.out]
  have HF0 := Lib.hid (row_next HH.out HB1.out HG1.out)
  go_wp2_with fail
  (with_reducible refine (wgU32 HF0.out _ tr rfl (by omega) (by omega)).mono ?_)
  rintro e w5 ⟨rfl, hh⟩
  have H5 := Lib.hid hh
  have c1_1 := hh.cell HnF.out (C1_0.out); have c2_1 := hh.cell HnF.out (C2_0.out); have c3_1 := hh.cell HnF.out (C3_0.out)
  clear hh
  go_wp2_with fail
  (with_reducible refine (wgU32 H5.out _ 4294967295 (by first | rfl | omega) (by omega) (by simp only [List.length_append, be_length]; omega)).mono ?_)
  rintro e w6 ⟨rfl, hh⟩
  have H6 := Lib.hid hh
  have c1_2 := hh.cell HnF.out (C1_0.out); have c2_2 := hh.cell HnF.out (C2_0.out); have c3_2 := hh.cell HnF.out (C3_0.out); clear c1_1 c2_1 c3_1
  clear hh
  go_wp2_with fail
  (with_reducible refine (wgU32 H6.out _ 4294967295 (by first | rfl | omega) (by omega) (by simp only [List.length_append, be_length]; omega)).mono ?_)
  rintro e w7 ⟨rfl, hh⟩
  have H7 := Lib.hid hh
  have c1_3 := hh.cell HnF.out (C1_0.out); have c2_3 := hh.cell HnF.out (C2_0.out); have c3_3 := hh.cell HnF.out (C3_0.out); clear c1_2 c2_2 c3_2
  clear hh
  go_wp2_with fail
  (with_reducible refine (wgU16 H7.out _ ge rfl (by omega) (by simp only [List.length_append, be_length]; omega)).mono ?_)
  rintro e w8 ⟨rfl, hh⟩
  have H8 := Lib.hid hh
  have c1_4 := hh.cell HnF.out (C1_0.out); have c2_4 := hh.cell HnF.out (C2_0.out); have c3_4 := hh.cell HnF.out (C3_0.out); clear c1_3 c2_3 c3_3
  clear hh
  go_wp2_with fail
  (with_reducible refine (wgU8 H8.out _ st rfl (by omega) (by simp only [List.length_append, be_length]; omega)).mono ?_)
  rintro e w9 ⟨rfl, hh⟩
  have H9 := Lib.hid (row_done HH.out HB1.out HG1.out hh)
  clear hh
  go_wp2
  go_end0
  refine ⟨rfl, ?_⟩
  have hd := H9.out
  have e1 : rowB ⟨[], tr, ge, st, bits⟩ eb.length = be tr 4 ++ (be 4294967295 4 ++ (be 4294967295 4 ++ (be ge 2 ++ be st 1))) := by simp [rowB, firstP, secondP]
  have e2 : edgeR ⟨[], tr, ge, st, bits⟩ = [] := rfl
  rw [e1, e2, List.append_nil]
  simpa only [List.append_assoc] using hd
set_option maxHeartbeats 8000000 in
set_option maxRecDepth 100000 in
theorem gRow1 (p q : Nat) (rb eb : List UInt8) (F G : Foot) (hrb : rb.length ≤ 1000000) (heb : eb.length ≤ 1000000) (r : RowP) (hpl : ∀ x ∈ r.parents, x < 1000000) (ht : r.tree < 65536) (hg : r.gen < 65536) (hst : r.st < 256) (x0 : Nat) (hn : r.parents = [x0]) (pa : Option Addr) (pc : Nat) (hpc : r.parents.length ≤ pc) (hpm : pc ≤ maxLen) (w : World) (h : RW w p rb F q eb G) (hc : CellsAt w pa (r.parents.flatMap natV)) :
    Calls Tryz.prog 145 #[.pointer (some ⟨p, 0, none⟩), .pointer (some ⟨q, 0, none⟩), .agg #[.slice pa r.parents.length pc, .int .i64 (r.tree : Nat), .int .i64 (r.gen : Nat), .int .i64 (r.st : Nat), .string r.bits]] w fun e w' => e = .returned (.tuple #[]) ∧ RowLaid p (rb ++ rowB r eb.length) F q (eb ++ edgeR r) G w w' := by
  unfold maxLen at hpm
  obtain ⟨ps, tr, ge, st, bits⟩ := r
  simp only at hpl ht hg hst hn hpc hc ⊢
  subst hn
  show Calls _ _ #[_, _, .agg #[.slice pa 1 pc, _, _, _, _]] _ _
  obtain ⟨W1, hW1⟩ : ∃ W1, w.alloc (.cells #[.slice pa 1 pc, .int .i64 (tr : Nat), .int .i64 (ge : Nat), .int .i64 (st : Nat), .string bits] 188) = W1 := ⟨_, rfl⟩
  have hb1 : Below w.heap.size w W1 := by rw [← hW1]; exact bl_alloc (Below.refl _ w) _
  have q0 : W1.cell? ⟨w.heap.size, 0, none⟩ = some (.slice pa 1 pc) := by rw [← hW1, World.cell?_alloc_new]; rfl
  have q1 : W1.cell? ⟨w.heap.size, 1, none⟩ = some (.int .i64 (tr : Nat)) := by rw [← hW1, World.cell?_alloc_mark]; rfl
  have q2 : W1.cell? ⟨w.heap.size, 2, none⟩ = some (.int .i64 (ge : Nat)) := by rw [← hW1, World.cell?_alloc_mark]; rfl
  have q3 : W1.cell? ⟨w.heap.size, 3, none⟩ = some (.int .i64 (st : Nat)) := by rw [← hW1, World.cell?_alloc_mark]; rfl
  have hnF : ¬ F w.heap.size := fun e => absurd (h.one.lt _ e) (Nat.lt_irrefl _)
  have hnG : ¬ G w.heap.size := fun e => absurd (h.two.lt _ e) (Nat.lt_irrefl _)
  have HQ := Lib.hid (show W1.cell? ⟨w.heap.size, 0, none⟩ = some (.slice pa 1 pc) ∧ W1.cell? ⟨w.heap.size, 1, none⟩ = some (.int .i64 (tr : Nat)) ∧ W1.cell? ⟨w.heap.size, 2, none⟩ = some (.int .i64 (ge : Nat)) ∧ W1.cell? ⟨w.heap.size, 3, none⟩ = some (.int .i64 (st : Nat)) from ⟨q0, q1, q2, q3⟩)
  have HA0 := Lib.hid hc
  have HA := Lib.hid (hc.below hb1)
  have HB1 := Lib.hid hb1
  have HH := Lib.hid h
  have HnF := Lib.hid hnF; have HnG := Lib.hid hnG
  have HG1 := Lib.hid (h.two.below hb1).start
  have hwt : IntKind.u32.wrap (tr : Int) = (tr : Int) := IntWalk.u32_in _ (by omega)
  have hwg : IntKind.u16.wrap (ge : Int) = (ge : Int) := IntWalk.u16_in _ (by omega)
  have hws : IntKind.u8.wrap (st : Int) = (st : Int) := IntWalk.u8_in _ (by omega)
  have HPL := Lib.hid hpl
  have HW1 := Lib.hid hW1
  clear h hc hW1 hb1 hnF hnG hpl
  have hx0 := HPL.out x0 (by simp)
  obtain ⟨b, off, rfl, hbl, p0⟩ := nat_cells HA0.out (k := 0) (by simp)
  simp only [List.getElem_cons_zero, Nat.add_zero] at p0
  have hw0 : IntKind.u32.wrap (x0 : Int) = (x0 : Int) := IntWalk.u32_in _ (by omega)
  have C1_0 := Lib.hid q1; have C2_0 := Lib.hid q2; have C3_0 := Lib.hid q3
  go_enter Tryz.func145, Tryz.ntmps145
  go_wp2_with fail
  rw [HW1.out]
  have HF0 := Lib.hid (row_next HH.out HB1.out HG1.out)
  go_wp2_with fail
  (with_reducible refine (wgU32 HF0.out _ tr rfl (by omega) (by omega)).mono ?_)
  rintro e w5 ⟨rfl, hh⟩
  have H5 := Lib.hid hh
  have c1_1 := hh.cell HnF.out (C1_0.out); have c2_1 := hh.cell HnF.out (C2_0.out); have c3_1 := hh.cell HnF.out (C3_0.out)
  clear hh
  go_wp2_with fail
  (with_reducible refine (wgU32 H5.out _ x0 (by first | rfl | omega) (by omega) (by simp only [List.length_append, be_length]; omega)).mono ?_)
  rintro e w6 ⟨rfl, hh⟩
  have H6 := Lib.hid hh
  have c1_2 := hh.cell HnF.out (C1_0.out); have c2_2 := hh.cell HnF.out (C2_0.out); have c3_2 := hh.cell HnF.out (C3_0.out); clear c1_1 c2_1 c3_1
  clear hh
  go_wp2_with fail
  (with_reducible refine (wgU32 H6.out _ 4294967295 (by first | rfl | omega) (by omega) (by simp only [List.length_append, be_length]; omega)).mono ?_)
  rintro e w7 ⟨rfl, hh⟩
  have H7 := Lib.hid hh
  have c1_3 := hh.cell HnF.out (C1_0.out); have c2_3 := hh.cell HnF.out (C2_0.out); have c3_3 := hh.cell HnF.out (C3_0.out); clear c1_2 c2_2 c3_2
  clear hh
  go_wp2_with fail
  (with_reducible refine (wgU16 H7.out _ ge rfl (by omega) (by simp only [List.length_append, be_length]; omega)).mono ?_)
  rintro e w8 ⟨rfl, hh⟩
  have H8 := Lib.hid hh
  have c1_4 := hh.cell HnF.out (C1_0.out); have c2_4 := hh.cell HnF.out (C2_0.out); have c3_4 := hh.cell HnF.out (C3_0.out); clear c1_3 c2_3 c3_3
  clear hh
  go_wp2_with fail
  (with_reducible refine (wgU8 H8.out _ st rfl (by omega) (by simp only [List.length_append, be_length]; omega)).mono ?_)
  rintro e w9 ⟨rfl, hh⟩
  have H9 := Lib.hid (row_done HH.out HB1.out HG1.out hh)
  clear hh
  go_wp2
  go_end0
  refine ⟨rfl, ?_⟩
  have hd := H9.out
  have e1 : rowB ⟨[x0], tr, ge, st, bits⟩ eb.length = be tr 4 ++ (be x0 4 ++ (be 4294967295 4 ++ (be ge 2 ++ be st 1))) := by simp [rowB, firstP, secondP]
  have e2 : edgeR ⟨[x0], tr, ge, st, bits⟩ = [] := rfl
  rw [e1, e2, List.append_nil]
  simpa only [List.append_assoc] using hd
set_option maxHeartbeats 8000000 in
set_option maxRecDepth 100000 in
theorem gRow2 (p q : Nat) (rb eb : List UInt8) (F G : Foot) (hrb : rb.length ≤ 1000000) (heb : eb.length ≤ 1000000) (r : RowP) (hpl : ∀ x ∈ r.parents, x < 1000000) (ht : r.tree < 65536) (hg : r.gen < 65536) (hst : r.st < 256) (x0 x1 : Nat) (hn : r.parents = [x0, x1]) (pa : Option Addr) (pc : Nat) (hpc : r.parents.length ≤ pc) (hpm : pc ≤ maxLen) (w : World) (h : RW w p rb F q eb G) (hc : CellsAt w pa (r.parents.flatMap natV)) :
    Calls Tryz.prog 145 #[.pointer (some ⟨p, 0, none⟩), .pointer (some ⟨q, 0, none⟩), .agg #[.slice pa r.parents.length pc, .int .i64 (r.tree : Nat), .int .i64 (r.gen : Nat), .int .i64 (r.st : Nat), .string r.bits]] w fun e w' => e = .returned (.tuple #[]) ∧ RowLaid p (rb ++ rowB r eb.length) F q (eb ++ edgeR r) G w w' := by
  unfold maxLen at hpm
  obtain ⟨ps, tr, ge, st, bits⟩ := r
  simp only at hpl ht hg hst hn hpc hc ⊢
  subst hn
  show Calls _ _ #[_, _, .agg #[.slice pa 2 pc, _, _, _, _]] _ _
  obtain ⟨W1, hW1⟩ : ∃ W1, w.alloc (.cells #[.slice pa 2 pc, .int .i64 (tr : Nat), .int .i64 (ge : Nat), .int .i64 (st : Nat), .string bits] 188) = W1 := ⟨_, rfl⟩
  have hb1 : Below w.heap.size w W1 := by rw [← hW1]; exact bl_alloc (Below.refl _ w) _
  have q0 : W1.cell? ⟨w.heap.size, 0, none⟩ = some (.slice pa 2 pc) := by rw [← hW1, World.cell?_alloc_new]; rfl
  have q1 : W1.cell? ⟨w.heap.size, 1, none⟩ = some (.int .i64 (tr : Nat)) := by rw [← hW1, World.cell?_alloc_mark]; rfl
  have q2 : W1.cell? ⟨w.heap.size, 2, none⟩ = some (.int .i64 (ge : Nat)) := by rw [← hW1, World.cell?_alloc_mark]; rfl
  have q3 : W1.cell? ⟨w.heap.size, 3, none⟩ = some (.int .i64 (st : Nat)) := by rw [← hW1, World.cell?_alloc_mark]; rfl
  have hnF : ¬ F w.heap.size := fun e => absurd (h.one.lt _ e) (Nat.lt_irrefl _)
  have hnG : ¬ G w.heap.size := fun e => absurd (h.two.lt _ e) (Nat.lt_irrefl _)
  have HQ := Lib.hid (show W1.cell? ⟨w.heap.size, 0, none⟩ = some (.slice pa 2 pc) ∧ W1.cell? ⟨w.heap.size, 1, none⟩ = some (.int .i64 (tr : Nat)) ∧ W1.cell? ⟨w.heap.size, 2, none⟩ = some (.int .i64 (ge : Nat)) ∧ W1.cell? ⟨w.heap.size, 3, none⟩ = some (.int .i64 (st : Nat)) from ⟨q0, q1, q2, q3⟩)
  have HA0 := Lib.hid hc
  have HA := Lib.hid (hc.below hb1)
  have HB1 := Lib.hid hb1
  have HH := Lib.hid h
  have HnF := Lib.hid hnF; have HnG := Lib.hid hnG
  have HG1 := Lib.hid (h.two.below hb1).start
  have hwt : IntKind.u32.wrap (tr : Int) = (tr : Int) := IntWalk.u32_in _ (by omega)
  have hwg : IntKind.u16.wrap (ge : Int) = (ge : Int) := IntWalk.u16_in _ (by omega)
  have hws : IntKind.u8.wrap (st : Int) = (st : Int) := IntWalk.u8_in _ (by omega)
  have HPL := Lib.hid hpl
  have HW1 := Lib.hid hW1
  clear h hc hW1 hb1 hnF hnG hpl
  have hx0 := HPL.out x0 (by simp)
  have hx1 := HPL.out x1 (by simp)
  obtain ⟨b, off, rfl, hbl, p0⟩ := nat_cells HA0.out (k := 0) (by simp)
  obtain ⟨b', off', e0, _, p1⟩ := nat_cells HA0.out (k := 1) (by simp)
  cases e0
  simp only [List.getElem_cons_zero, List.getElem_cons_succ, Nat.add_zero] at p0 p1
  have hw0 : IntKind.u32.wrap (x0 : Int) = (x0 : Int) := IntWalk.u32_in _ (by omega)
  have hw1 : IntKind.u32.wrap (x1 : Int) = (x1 : Int) := IntWalk.u32_in _ (by omega)
  have C1_0 := Lib.hid q1; have C2_0 := Lib.hid q2; have C3_0 := Lib.hid q3
  go_enter Tryz.func145, Tryz.ntmps145
  go_wp2_with fail
  rw [HW1.out]
  have HF0 := Lib.hid (row_next HH.out HB1.out HG1.out)
  go_wp2_with fail
  (with_reducible refine (wgU32 HF0.out _ tr rfl (by omega) (by omega)).mono ?_)
  rintro e w5 ⟨rfl, hh⟩
  have H5 := Lib.hid hh
  have c1_1 := hh.cell HnF.out (C1_0.out); have c2_1 := hh.cell HnF.out (C2_0.out); have c3_1 := hh.cell HnF.out (C3_0.out)
  clear hh
  go_wp2_with fail
  (with_reducible refine (wgU32 H5.out _ x0 (by first | rfl | omega) (by omega) (by simp only [List.length_append, be_length]; omega)).mono ?_)
  rintro e w6 ⟨rfl, hh⟩
  have H6 := Lib.hid hh
  have c1_2 := hh.cell HnF.out (C1_0.out); have c2_2 := hh.cell HnF.out (C2_0.out); have c3_2 := hh.cell HnF.out (C3_0.out); clear c1_1 c2_1 c3_1
  clear hh
  go_wp2_with fail
  (with_reducible refine (wgU32 H6.out _ x1 (by first | rfl | omega) (by omega) (by simp only [List.length_append, be_length]; omega)).mono ?_)
  rintro e w7 ⟨rfl, hh⟩
  have H7 := Lib.hid hh
  have c1_3 := hh.cell HnF.out (C1_0.out); have c2_3 := hh.cell HnF.out (C2_0.out); have c3_3 := hh.cell HnF.out (C3_0.out); clear c1_2 c2_2 c3_2
  clear hh
  go_wp2_with fail
  (with_reducible refine (wgU16 H7.out _ ge rfl (by omega) (by simp only [List.length_append, be_length]; omega)).mono ?_)
  rintro e w8 ⟨rfl, hh⟩
  have H8 := Lib.hid hh
  have c1_4 := hh.cell HnF.out (C1_0.out); have c2_4 := hh.cell HnF.out (C2_0.out); have c3_4 := hh.cell HnF.out (C3_0.out); clear c1_3 c2_3 c3_3
  clear hh
  go_wp2_with fail
  (with_reducible refine (wgU8 H8.out _ st rfl (by omega) (by simp only [List.length_append, be_length]; omega)).mono ?_)
  rintro e w9 ⟨rfl, hh⟩
  have H9 := Lib.hid (row_done HH.out HB1.out HG1.out hh)
  clear hh
  go_wp2
  go_end0
  refine ⟨rfl, ?_⟩
  have hd := H9.out
  have e1 : rowB ⟨[x0, x1], tr, ge, st, bits⟩ eb.length = be tr 4 ++ (be x0 4 ++ (be x1 4 ++ (be ge 2 ++ be st 1))) := by simp [rowB, firstP, secondP]
  have e2 : edgeR ⟨[x0, x1], tr, ge, st, bits⟩ = [] := rfl
  rw [e1, e2, List.append_nil]
  simpa only [List.append_assoc] using hd
set_option maxHeartbeats 8000000 in
set_option maxRecDepth 100000 in
theorem gRow3 (p q : Nat) (rb eb : List UInt8) (F G : Foot) (hrb : rb.length ≤ 1000000) (heb : eb.length ≤ 1000000) (r : RowP) (hpl : ∀ x ∈ r.parents, x < 1000000) (ht : r.tree < 65536) (hg : r.gen < 65536) (hst : r.st < 256) (hn : 2 < r.parents.length) (h16 : r.parents.length ≤ 1000) (pa : Option Addr) (pc : Nat) (hpc : r.parents.length ≤ pc) (hpm : pc ≤ maxLen) (w : World) (h : RW w p rb F q eb G) (hna : 0 < r.parents.length → ∀ b off, pa = some ⟨b, off, none⟩ → ¬ G b) (hc : CellsAt w pa (r.parents.flatMap natV)) :
    Calls Tryz.prog 145 #[.pointer (some ⟨p, 0, none⟩), .pointer (some ⟨q, 0, none⟩), .agg #[.slice pa r.parents.length pc, .int .i64 (r.tree : Nat), .int .i64 (r.gen : Nat), .int .i64 (r.st : Nat), .string r.bits]] w fun e w' => e = .returned (.tuple #[]) ∧ RowLaid p (rb ++ rowB r eb.length) F q (eb ++ edgeR r) G w w' := by
  unfold maxLen at hpm
  obtain ⟨ps, tr, ge, st, bits⟩ := r
  simp only at hpl ht hg hst h16 hna hn hpc hc ⊢
  obtain ⟨W1, hW1⟩ : ∃ W1, w.alloc (.cells #[.slice pa ps.length pc, .int .i64 (tr : Nat), .int .i64 (ge : Nat), .int .i64 (st : Nat), .string bits] 188) = W1 := ⟨_, rfl⟩
  have hb1 : Below w.heap.size w W1 := by rw [← hW1]; exact bl_alloc (Below.refl _ w) _
  have q0 : W1.cell? ⟨w.heap.size, 0, none⟩ = some (.slice pa ps.length pc) := by rw [← hW1, World.cell?_alloc_new]; rfl
  have q1 : W1.cell? ⟨w.heap.size, 1, none⟩ = some (.int .i64 (tr : Nat)) := by rw [← hW1, World.cell?_alloc_mark]; rfl
  have q2 : W1.cell? ⟨w.heap.size, 2, none⟩ = some (.int .i64 (ge : Nat)) := by rw [← hW1, World.cell?_alloc_mark]; rfl
  have q3 : W1.cell? ⟨w.heap.size, 3, none⟩ = some (.int .i64 (st : Nat)) := by rw [← hW1, World.cell?_alloc_mark]; rfl
  have hnF : ¬ F w.heap.size := fun e => absurd (h.one.lt _ e) (Nat.lt_irrefl _)
  have hnG : ¬ G w.heap.size := fun e => absurd (h.two.lt _ e) (Nat.lt_irrefl _)
  have HQ := Lib.hid (show W1.cell? ⟨w.heap.size, 0, none⟩ = some (.slice pa ps.length pc) ∧ W1.cell? ⟨w.heap.size, 1, none⟩ = some (.int .i64 (tr : Nat)) ∧ W1.cell? ⟨w.heap.size, 2, none⟩ = some (.int .i64 (ge : Nat)) ∧ W1.cell? ⟨w.heap.size, 3, none⟩ = some (.int .i64 (st : Nat)) from ⟨q0, q1, q2, q3⟩)
  have HA0 := Lib.hid hc
  have HA := Lib.hid (hc.below hb1)
  have HB1 := Lib.hid hb1
  have HH := Lib.hid h
  have HnF := Lib.hid hnF; have HnG := Lib.hid hnG
  have HG1 := Lib.hid (h.two.below hb1).start
  have hwt : IntKind.u32.wrap (tr : Int) = (tr : Int) := IntWalk.u32_in _ (by omega)
  have hwg : IntKind.u16.wrap (ge : Int) = (ge : Int) := IntWalk.u16_in _ (by omega)
  have hws : IntKind.u8.wrap (st : Int) = (st : Int) := IntWalk.u8_in _ (by omega)
  have HPL := Lib.hid hpl
  have HW1 := Lib.hid hW1
  clear h hc hW1 hb1 hnF hnG hpl
  obtain ⟨b, off, rfl, hbl, p0⟩ := nat_cells HA0.out (k := 0) (by omega)
  rw [Nat.add_zero] at p0
  have hbl1 := Nat.lt_of_lt_of_le hbl HB1.out.size
  have p0' : W1.cell? ⟨b, off, none⟩ = some (.int .i64 (ps[0]'(by omega) : Nat)) := bl_cell HB1.out p0
  obtain ⟨e0, he0⟩ : ∃ e0, eb.length = e0 := ⟨_, rfl⟩
  have hq1 : IntKind.u32.wrap ((e0 : Int) / 4) = (e0 : Int) / 4 := IntWalk.u32_in _ (by omega)
  have hq2 : IntKind.u32.wrap (2147483648 + (e0 : Int) / 4) = ((2147483648 + e0 / 4 : Nat) : Int) := by rw [IntWalk.u32_in _ (by omega)]; omega
  obtain ⟨x0, hx0⟩ : ∃ x, ps[0]'(by omega) = x := ⟨_, rfl⟩
  have hb0 := HPL.out x0 (by rw [← hx0]; exact List.getElem_mem _)
  rw [hx0] at p0 p0'
  have hw0 : IntKind.u32.wrap (x0 : Int) = (x0 : Int) := IntWalk.u32_in _ (by omega)
  obtain ⟨n, hnn⟩ : ∃ n, ps.length = n + 3 := ⟨ps.length - 3, by omega⟩
  obtain ⟨xl, hxl⟩ : ∃ x, ps[n + 2]'(by omega) = x := ⟨_, rfl⟩
  have hbxl := HPL.out xl (by rw [← hxl]; exact List.getElem_mem _)
  have hwl : IntKind.u32.wrap (xl : Int) = (xl : Int) := IntWalk.u32_in _ (by omega)
  have hwl2 : IntKind.u32.wrap ((xl : Int) + 2147483648) = ((xl + 2147483648 : Nat) : Int) := by rw [IntWalk.u32_in _ (by omega)]; omega
  have HMid := Lib.hid (show ∀ k, k < n + 1 → ps.tail.dropLast[k]? = ps[k + 1]? from fun k hk => by
    rw [List.getElem?_dropLast, List.length_tail, if_pos (by omega), List.getElem?_tail])
  have HML := Lib.hid (show ps.tail.dropLast.length = n + 1 by rw [List.length_dropLast, List.length_tail]; omega)
  have HED := Lib.hid (show edgeR ⟨ps, tr, ge, st, bits⟩ = ps.tail.dropLast.flatMap (fun p => be p 4) ++ be (xl + 2147483648) 4 by
    have hne : ps.tail ≠ [] := by intro e; have := congrArg List.length e; rw [List.length_tail] at this; simp at this; omega
    unfold edgeR
    rw [if_pos (by simp only; omega), edgeT_last _ hne]
    congr 3
    rw [List.getLast_eq_getElem, List.getElem_tail, ← hxl]
    congr 1
    rw [List.length_tail]
    omega)
  have HRB := Lib.hid (show rowB ⟨ps, tr, ge, st, bits⟩ e0 = be tr 4 ++ (be x0 4 ++ (be (2147483648 + e0 / 4) 4 ++ (be ge 2 ++ be st 1))) from rowB_three _ _ _ hn (by show ps[0]? = some x0; rw [List.getElem?_eq_getElem (by omega), hx0]))
  have HE0 := Lib.hid he0
  have HLen := Lib.hid (wrLen (HH.out.two.below HB1.out))
  rw [he0] at HLen
  have hL := Lib.hid hnn
  have HXL := Lib.hid (show ps[n + 2]? = some xl from by rw [List.getElem?_eq_getElem (by omega), hxl])
  have hsm : n ≤ 1000 := by omega
  have hG' := hna (by omega) b off rfl
  have HnA := Lib.hid hG'
  have he1 : e0 ≤ 1000000 := by omega
  have hps : ((n + 3 : Nat) : Int) - 1 = ((n + 2 : Nat) : Int) := by omega
  have hpc2 : n + 3 ≤ pc := by omega
  rw [hnn] at HW1 HQ q0
  rw [hnn]
  have HA2 := HA
  clear he0 hx0 hxl hnn hn hpc heb hna hG'
  go_enter Tryz.func145, Tryz.ntmps145
  go_wp2_with fail
  rw [HW1.out]
  go_wp2_with fail
  (with_reducible refine HLen.out.mono ?_)
  rintro e w2 ⟨rfl, rfl⟩
  go_wp2
  rw [show n + 3 - 1 - 1 = n + 1 from rfl]
  go_loopw [28] (fun iv wr => ∃ k : Nat, k ≤ n + 1 ∧ iv = .int .i64 k ∧ WG G W1 q wr (eb ++ (ps.tail.dropLast.take k).flatMap (fun p => be p 4))) (fun iv _ => n + 1 - (intOf iv).toNat)
  case atStart => exact ⟨0, Nat.zero_le _, rfl, by simpa using HG1.out⟩
  case round =>
    obtain ⟨k, hk, rfl, hwg⟩ := hrel
    have HW := Lib.hid hwg
    clear hwg
    by_cases hlt : k < n + 1
    · have hk1 : k + 1 < ps.length := by have := hL.out; omega
      obtain ⟨b', off', e1, _, pk⟩ := nat_cells HA.out hk1
      cases e1
      have hbx := HPL.out _ (List.getElem_mem hk1)
      have HT := Lib.hid (show (ps.tail.dropLast.take (k + 1)) = ps.tail.dropLast.take k ++ [ps[k + 1]] by
        rw [List.take_add_one, HMid.out k hlt, List.getElem?_eq_getElem hk1]; rfl)
      have hl0 : (eb ++ (ps.tail.dropLast.take k).flatMap (fun p => be p 4)).length ≤ 9000000000 := by
        rw [List.length_append, HE0.out]
        have hfl : ∀ l : List Nat, (l.flatMap (fun p => be p 4)).length = 4 * l.length := fun l => by
          induction l with
          | nil => rfl
          | cons x r ih => rw [List.flatMap_cons, List.length_append, ih, be_length, List.length_cons]; omega
        rw [hfl, List.length_take]
        have := hsm
        omega
      obtain ⟨x, hx⟩ : ∃ x, ps[k + 1] = x := ⟨_, rfl⟩
      rw [hx] at pk hbx HT
      have hwx : IntKind.u32.wrap (x : Int) = (x : Int) := IntWalk.u32_in _ (by omega)
      have pk2 : wr.cell? ⟨b, off + 1 + k, none⟩ = some (.int .i64 (x : Nat)) := by
        rw [show off + 1 + k = off + (k + 1) from by omega]
        exact HW.out.cell HnA.out pk
      have hkz : (k : Int) < (n : Int) + 1 := by omega
      have HN := Lib.hid (show eb ++ (ps.tail.dropLast.take (k + 1)).flatMap (fun p => be p 4) = (eb ++ (ps.tail.dropLast.take k).flatMap (fun p => be p 4)) ++ be x 4 by rw [HT.out, List.flatMap_append]; simp)
      clear hx pk HT p0 p0'
      go_wp2_with fail
      (with_reducible refine (wgU32 HW.out _ x rfl (by omega) (by omega)).mono ?_)
      rintro e w5 ⟨rfl, hh⟩
      have H5 := Lib.hid hh
      clear hh pk2
      go_wp2
      go_roundw
      case rel => exact ⟨k + 1, by omega, by go_num, by rw [HN.out]; exact H5.out⟩
      case measure => simp [intOf]; omega
    · have hkn : k = n + 1 := by omega
      subst hkn
      have HWe := Lib.hid (show WG G W1 q wr (eb ++ ps.tail.dropLast.flatMap (fun p => be p 4)) by have := HW.out; rwa [List.take_of_length_le (by rw [HML.out]; exact Nat.le_refl _)] at this)
      obtain ⟨y1, y2, y3, y4⟩ := HQ.out
      have z0 := HWe.out.cell HnG.out y1; have z1 := HWe.out.cell HnG.out y2; have z2 := HWe.out.cell HnG.out y3; have z3 := HWe.out.cell HnG.out y4
      have hk2 : n + 2 < ps.length := by have := hL.out; omega
      obtain ⟨b', off', e1, _, pk⟩ := nat_cells HA.out hk2
      cases e1
      have pl : wr.cell? ⟨b, off + (n + 2), none⟩ = some (.int .i64 (xl : Nat)) := by have := HWe.out.cell HnA.out pk; rwa [show ps[n + 2] = xl from by have h9 := HXL.out; rw [List.getElem?_eq_getElem hk2] at h9; exact Option.some.inj h9] at this
      have pf : wr.cell? ⟨b, off, none⟩ = some (.int .i64 (x0 : Nat)) := HWe.out.cell HnA.out p0'
      have hl1 : (eb ++ ps.tail.dropLast.flatMap (fun p => be p 4)).length ≤ 9000000000 := by
        rw [List.length_append, HE0.out]
        have hfl : ∀ l : List Nat, (l.flatMap (fun p => be p 4)).length = 4 * l.length := fun l => by
          induction l with
          | nil => rfl
          | cons x r ih => rw [List.flatMap_cons, List.length_append, ih, be_length, List.length_cons]; omega
        rw [hfl, HML.out]
        have := hsm
        omega
      clear HW pk
      go_wp2_with fail
      (with_reducible refine (wgU32 HWe.out _ (xl + 2147483648) (by omega) (by omega) (by omega)).mono ?_)
      rintro e w8 ⟨rfl, hh⟩
      have HWd := Lib.hid (show WG G W1 q w8 (eb ++ edgeR ⟨ps, tr, ge, st, bits⟩) by rw [HED.out, ← List.append_assoc]; exact hh)
      have f0 := hh.cell HnG.out y1; have f1 := hh.cell HnG.out y2; have f2 := hh.cell HnG.out y3; have f3 := hh.cell HnG.out y4
      have pf8 : w8.cell? ⟨b, off, none⟩ = some (.int .i64 (x0 : Nat)) := hh.cell HnA.out p0'
      have C1_0 := Lib.hid f1; have C2_0 := Lib.hid f2; have C3_0 := Lib.hid f3
      clear z0 z1 z2 z3 y1 y2 y3 y4 pl pf hh p0 p0' q0 q1 q2 q3
      have HF0 := Lib.hid (row_next HH.out HB1.out HWd.out)
      go_wp2_with fail
      (with_reducible refine (wgU32 HF0.out _ tr rfl (by omega) (by omega)).mono ?_)
      rintro e w5 ⟨rfl, hh⟩
      have H5 := Lib.hid hh
      have c1_1 := hh.cell HnF.out (C1_0.out); have c2_1 := hh.cell HnF.out (C2_0.out); have c3_1 := hh.cell HnF.out (C3_0.out)
      clear hh
      go_wp2_with fail
      (with_reducible refine (wgU32 H5.out _ x0 (by first | rfl | omega) (by omega) (by simp only [List.length_append, be_length]; omega)).mono ?_)
      rintro e w6 ⟨rfl, hh⟩
      have H6 := Lib.hid hh
      have c1_2 := hh.cell HnF.out (C1_0.out); have c2_2 := hh.cell HnF.out (C2_0.out); have c3_2 := hh.cell HnF.out (C3_0.out); clear c1_1 c2_1 c3_1
      clear hh
      go_wp2_with fail
      (with_reducible refine (wgU32 H6.out _ (2147483648 + e0 / 4) (by first | rfl | omega) (by omega) (by simp only [List.length_append, be_length]; omega)).mono ?_)
      rintro e w7 ⟨rfl, hh⟩
      have H7 := Lib.hid hh
      have c1_3 := hh.cell HnF.out (C1_0.out); have c2_3 := hh.cell HnF.out (C2_0.out); have c3_3 := hh.cell HnF.out (C3_0.out); clear c1_2 c2_2 c3_2
      clear hh
      go_wp2_with fail
      (with_reducible refine (wgU16 H7.out _ ge rfl (by omega) (by simp only [List.length_append, be_length]; omega)).mono ?_)
      rintro e w8 ⟨rfl, hh⟩
      have H8 := Lib.hid hh
      have c1_4 := hh.cell HnF.out (C1_0.out); have c2_4 := hh.cell HnF.out (C2_0.out); have c3_4 := hh.cell HnF.out (C3_0.out); clear c1_3 c2_3 c3_3
      clear hh
      go_wp2_with fail
      (with_reducible refine (wgU8 H8.out _ st rfl (by omega) (by simp only [List.length_append, be_length]; omega)).mono ?_)
      rintro e w9 ⟨rfl, hh⟩
      have H9 := Lib.hid (row_done HH.out HB1.out HWd.out hh)
      clear hh
      go_wp2
      go_end0
      refine ⟨rfl, ?_⟩
      have hd := H9.out
      rw [HE0.out, HRB.out]
      simpa only [List.append_assoc] using hd
theorem gRow (p q : Nat) (rb eb : List UInt8) (F G : Foot) (hrb : rb.length ≤ 1000000) (heb : eb.length ≤ 1000000) (r : RowP) (n : Nat) (hn : n ≤ 1000000) (hg : GoodRow r n) (pa : Option Addr) (pc : Nat) (hpc : r.parents.length ≤ pc) (hpm : pc ≤ maxLen) (w : World) (h : RW w p rb F q eb G) (hna : 0 < r.parents.length → ∀ b off, pa = some ⟨b, off, none⟩ → ¬ G b) (hc : CellsAt w pa (r.parents.flatMap natV)) :
    Calls Tryz.prog 145 #[.pointer (some ⟨p, 0, none⟩), .pointer (some ⟨q, 0, none⟩), .agg #[.slice pa r.parents.length pc, .int .i64 (r.tree : Nat), .int .i64 (r.gen : Nat), .int .i64 (r.st : Nat), .string r.bits]] w fun e w' => e = .returned (.tuple #[]) ∧ RowLaid p (rb ++ rowB r eb.length) F q (eb ++ edgeR r) G w w' := by
  have hpl : ∀ x ∈ r.parents, x < 1000000 := fun x hx => by have := hg.low x hx; omega
  have ht : r.tree < 65536 := hg.tree
  have hge : r.gen < 65536 := by have := hg.gen; omega
  have hst : r.st < 256 := by rcases hg.fil with ⟨h, _⟩ | ⟨h, _⟩ <;> omega
  by_cases h3 : 2 < r.parents.length
  · exact gRow3 p q rb eb F G hrb heb r hpl ht hge hst h3 (by have := hg.few; omega) pa pc hpc hpm w h hna hc
  · match hp : r.parents with
    | [] => rw [← hp]; exact gRow0 p q rb eb F G hrb heb r hpl ht hge hst hp pa pc hpc hpm w h hc
    | [x0] => rw [← hp]; exact gRow1 p q rb eb F G hrb heb r hpl ht hge hst x0 hp pa pc hpc hpm w h hc
    | [x0, x1] => rw [← hp]; exact gRow2 p q rb eb F G hrb heb r hpl ht hge hst x0 x1 hp pa pc hpc hpm w h hc
    | _ :: _ :: _ :: _ => rw [hp] at h3; simp at h3
end Go.Proofs.YtbhfbdcmamodcaaGreatDoor
namespace Go.Proofs.YtbhfbdcmamodcaaGreatDoor
open Go.RowKit PackMath SumMath
def pick {α : Type} (a b c d e : α) : Nat → α
  | 0 => a
  | 1 => b
  | 2 => c
  | 3 => d
  | _ => e
structure WsF (w0 w : World) (p : Nat → Nat) (b : Nat → List UInt8) (F : Nat → Foot) : Prop where
  wr : ∀ i, i < 5 → WR w (p i) (b i) (F i)
  apart : ∀ i, i < 5 → ∀ j, j < 5 → i ≠ j → Apart (F i) (F j)
  ge : ∀ i, i < 5 → ∀ k, F i k → w0.heap.size ≤ k
  bel : Below w0.heap.size w0 w
theorem WsF.congr {w0 w : World} {p : Nat → Nat} {b c : Nat → List UInt8} {F : Nat → Foot} (h : WsF w0 w p b F) (he : ∀ i, i < 5 → b i = c i) : WsF w0 w p c F :=
  ⟨fun i hi => he i hi ▸ h.wr i hi, h.apart, h.ge, h.bel⟩
theorem WsF.thenB {w0 w x : World} {p : Nat → Nat} {b : Nat → List UInt8} {F : Nat → Foot} (h : WsF w0 w p b F) (hb : Below w.heap.size w x) : WsF w0 x p b F :=
  ⟨fun i hi => (h.wr i hi).below hb, h.apart, h.ge, h.bel.trans (hb.mono h.bel.size)⟩
theorem WsF.not {w0 w : World} {p : Nat → Nat} {b : Nat → List UInt8} {F : Nat → Foot} (h : WsF w0 w p b F) {i : Nat} (hi : i < 5) : ¬ F i w.heap.size := fun e => absurd ((h.wr i hi).lt _ e) (Nat.lt_irrefl _)
theorem WsF.step {w0 w w' : World} {p : Nat → Nat} {b : Nat → List UInt8} {F : Nat → Foot} (h : WsF w0 w p b F) {i : Nat} (hi : i < 5) {cs : List UInt8} (k : Laid (p i) cs (F i) w w') :
    ∃ F', WsF w0 w' p (fun j => if j = i then cs else b j) F' ∧ Upd (F i) w w' := by
  obtain ⟨G, k1, k2⟩ := k
  have hz := h.bel.size
  refine ⟨fun j => if j = i then G else F j, ⟨fun j hj => ?_, fun j hj l hl hne => ?_, fun j hj q hq => ?_, h.bel.trans (k2.upd.below (h.ge i hi) hz)⟩, k2.upd⟩
  · by_cases e : j = i
    · subst e; simpa using k1
    · simp only [if_neg e]
      exact (h.wr j hj).stays (k2.upd.stays (h.apart i hi j hj (Ne.symm e)) (h.wr j hj).lt)
  · by_cases e : j = i
    · subst e
      simp only [if_true, if_neg (Ne.symm hne)]
      exact (h.apart j hj l hl hne).step k2 (h.wr l hl).lt
    · by_cases e2 : l = i
      · subst e2
        simp only [if_true, if_neg e]
        exact ((h.apart l hl j hj (Ne.symm hne)).step k2 (h.wr j hj).lt).symm
      · simp only [if_neg e, if_neg e2]
        exact h.apart j hj l hl hne
  · by_cases e : j = i
    · subst e
      simp only [if_true] at hq
      rcases k2.sub q hq with e2 | e2
      · exact h.ge j hj q e2
      · omega
    · simp only [if_neg e] at hq
      exact h.ge j hj q hq
theorem WsF.row {w0 w w' : World} {p : Nat → Nat} {b : Nat → List UInt8} {F : Nat → Foot} (h : WsF w0 w p b F) {rb eb : List UInt8} (k : RowLaid (p 1) rb (F 1) (p 2) eb (F 2) w w') :
    ∃ F', WsF w0 w' p (fun j => if j = 1 then rb else if j = 2 then eb else b j) F' ∧ Upd (fun q => F 1 q ∨ F 2 q) w w' := by
  obtain ⟨G1, G2, k1, k2, k3, k4⟩ := k
  have hz := h.bel.size
  have ha : ∀ j, j < 5 → j ≠ 1 → j ≠ 2 → Apart (fun q => F 1 q ∨ F 2 q) (F j) := fun j hj h1 h2 q a c => a.elim (fun a => h.apart 1 (by decide) j hj (Ne.symm h1) q a c) (fun a => h.apart 2 (by decide) j hj (Ne.symm h2) q a c)
  have g1 : ∀ j, j < 5 → j ≠ 1 → j ≠ 2 → Apart G1 (F j) := fun j hj h1 h2 q a c => by
    rcases k3 q a with e | e
    · exact h.apart 1 (by decide) j hj (Ne.symm h1) q e c
    · have := (h.wr j hj).lt q c; omega
  have g2 : ∀ j, j < 5 → j ≠ 1 → j ≠ 2 → Apart G2 (F j) := fun j hj h1 h2 q a c => by
    rcases k4 q a with e | e
    · exact h.apart 2 (by decide) j hj (Ne.symm h2) q e c
    · have := (h.wr j hj).lt q c; omega
  refine ⟨fun j => if j = 1 then G1 else if j = 2 then G2 else F j, ⟨fun j hj => ?_, fun j hj l hl hne => ?_, fun j hj q hq => ?_, h.bel.trans (k2.below (fun i e => e.elim (h.ge 1 (by decide) i) (h.ge 2 (by decide) i)) hz)⟩, k2⟩
  · by_cases e : j = 1
    · subst e; simpa using k1.one
    · by_cases e2 : j = 2
      · subst e2; simpa using k1.two
      · simp only [if_neg e, if_neg e2]
        exact (h.wr j hj).stays (k2.stays (ha j hj e e2) (h.wr j hj).lt)
  · by_cases e : j = 1
    · subst e
      by_cases f : l = 2
      · subst f; simpa using k1.apart
      · simp only [if_true, if_neg (Ne.symm hne), if_neg f]
        exact g1 l hl (Ne.symm hne) f
    · by_cases e2 : j = 2
      · subst e2
        by_cases f : l = 1
        · subst f; simpa using k1.apart.symm
        · simp only [if_neg e, if_true, if_neg f, if_neg (Ne.symm hne)]
          exact g2 l hl f (Ne.symm hne)
      · by_cases f : l = 1
        · subst f
          simp only [if_neg e, if_neg e2, if_true]
          exact (g1 j hj e e2).symm
        · by_cases f2 : l = 2
          · subst f2
            simp only [if_neg e, if_neg e2, if_neg f, if_true]
            exact (g2 j hj e e2).symm
          · simp only [if_neg e, if_neg e2, if_neg f, if_neg f2]
            exact h.apart j hj l hl hne
  · by_cases e : j = 1
    · subst e
      simp only [if_true] at hq
      rcases k3 q hq with e2 | e2
      · exact h.ge 1 (by decide) q e2
      · omega
    · by_cases e2 : j = 2
      · subst e2
        simp only [if_neg e, if_true] at hq
        rcases k4 q hq with e3 | e3
        · exact h.ge 2 (by decide) q e3
        · omega
      · simp only [if_neg e, if_neg e2] at hq
        exact h.ge j hj q hq
theorem WsF.made {w0 w1 w2 w3 w4 w5 : World} {p0 p1 p2 p3 p4 : Nat} {F0 F1 F2 F3 F4 : Foot}
    (h0 : WR w1 p0 [] F0) (g0 : ∀ k, F0 k → w0.heap.size ≤ k) (b0 : Below w0.heap.size w0 w1)
    (h1 : WR w2 p1 [] F1) (g1 : ∀ k, F1 k → w1.heap.size ≤ k) (b1 : Below w1.heap.size w1 w2)
    (h2 : WR w3 p2 [] F2) (g2 : ∀ k, F2 k → w2.heap.size ≤ k) (b2 : Below w2.heap.size w2 w3)
    (h3 : WR w4 p3 [] F3) (g3 : ∀ k, F3 k → w3.heap.size ≤ k) (b3 : Below w3.heap.size w3 w4)
    (h4 : WR w5 p4 [] F4) (g4 : ∀ k, F4 k → w4.heap.size ≤ k) (b4 : Below w4.heap.size w4 w5) :
    WsF w0 w5 (pick p0 p1 p2 p3 p4) (pick [] [] [] [] []) (pick F0 F1 F2 F3 F4) := by
  have z0 := b0.size; have z1 := b1.size; have z2 := b2.size; have z3 := b3.size
  have l0 := h0.lt; have l1 := h1.lt; have l2 := h2.lt; have l3 := h3.lt
  have c1 := bl_trans b1 b2; have c2 := bl_trans c1 b3; have c3 := bl_trans c2 b4
  have d1 := bl_trans b2 b3; have d2 := bl_trans d1 b4
  have e1 := bl_trans b3 b4
  have ap : ∀ {A B : Foot} {n : Nat}, (∀ k, A k → k < n) → (∀ k, B k → n ≤ k) → Apart A B := fun ha hb k a b => by have := ha k a; have := hb k b; omega
  have a01 := ap l0 g1
  have a02 := ap l0 (fun k e => Nat.le_trans z1 (g2 k e))
  have a03 := ap l0 (fun k e => Nat.le_trans (Nat.le_trans z1 z2) (g3 k e))
  have a04 := ap l0 (fun k e => Nat.le_trans (Nat.le_trans (Nat.le_trans z1 z2) z3) (g4 k e))
  have a12 := ap l1 g2
  have a13 := ap l1 (fun k e => Nat.le_trans z2 (g3 k e))
  have a14 := ap l1 (fun k e => Nat.le_trans (Nat.le_trans z2 z3) (g4 k e))
  have a23 := ap l2 g3
  have a24 := ap l2 (fun k e => Nat.le_trans z3 (g4 k e))
  have a34 := ap l3 g4
  refine ⟨fun i hi => ?_, fun i hi j hj hne => ?_, fun i hi k hk => ?_, (((b0.trans (b1.mono z0)).trans (b2.mono (Nat.le_trans z0 z1))).trans (b3.mono (Nat.le_trans (Nat.le_trans z0 z1) z2))).trans (b4.mono (Nat.le_trans (Nat.le_trans (Nat.le_trans z0 z1) z2) z3))⟩
  · match i, hi with
    | 0, _ => exact h0.below c3
    | 1, _ => exact h1.below d2
    | 2, _ => exact h2.below e1
    | 3, _ => exact h3.below b4
    | 4, _ => exact h4
  · match i, hi, j, hj with
    | 0, _, 0, _ => exact absurd rfl hne
    | 0, _, 1, _ => exact a01
    | 0, _, 2, _ => exact a02
    | 0, _, 3, _ => exact a03
    | 0, _, 4, _ => exact a04
    | 1, _, 0, _ => exact a01.symm
    | 1, _, 1, _ => exact absurd rfl hne
    | 1, _, 2, _ => exact a12
    | 1, _, 3, _ => exact a13
    | 1, _, 4, _ => exact a14
    | 2, _, 0, _ => exact a02.symm
    | 2, _, 1, _ => exact a12.symm
    | 2, _, 2, _ => exact absurd rfl hne
    | 2, _, 3, _ => exact a23
    | 2, _, 4, _ => exact a24
    | 3, _, 0, _ => exact a03.symm
    | 3, _, 1, _ => exact a13.symm
    | 3, _, 2, _ => exact a23.symm
    | 3, _, 3, _ => exact absurd rfl hne
    | 3, _, 4, _ => exact a34
    | 4, _, 0, _ => exact a04.symm
    | 4, _, 1, _ => exact a14.symm
    | 4, _, 2, _ => exact a24.symm
    | 4, _, 3, _ => exact a34.symm
    | 4, _, 4, _ => exact absurd rfl hne
  · match i, hi with
    | 0, _ => exact g0 k hk
    | 1, _ => exact Nat.le_trans z0 (g1 k hk)
    | 2, _ => exact Nat.le_trans (Nat.le_trans z0 z1) (g2 k hk)
    | 3, _ => exact Nat.le_trans (Nat.le_trans (Nat.le_trans z0 z1) z2) (g3 k hk)
    | 4, _ => exact Nat.le_trans (Nat.le_trans (Nat.le_trans (Nat.le_trans z0 z1) z2) z3) (g4 k hk)
end Go.Proofs.YtbhfbdcmamodcaaGreatDoor
namespace Go.Proofs.YtbhfbdcmamodcaaGreatDoor
open Go.RowKit PackMath SumMath
def fiveB (g : GraphP) (k : Nat) : Nat → List UInt8 := pick (headG g) (rowsB (g.rows.take k) 0) (edgesB (g.rows.take k)) (endsB (g.rows.take k) 0) (bitsB (g.rows.take k))
theorem five_start (g : GraphP) : ∀ i, i < 5 → pick (headG g) ([] : List UInt8) [] [] [] i = fiveB g 0 i
  | 0, _ => rfl
  | 1, _ => rfl
  | 2, _ => rfl
  | 3, _ => rfl
  | 4, _ => rfl
theorem five_next (g : GraphP) {k : Nat} (h : k < g.rows.length) : ∀ i, i < 5 →
    (fun j => if j = 3 then endsB (g.rows.take k) 0 ++ be (bitsB (g.rows.take (k + 1))).length 4 else (fun j => if j = 4 then bitsB (g.rows.take k) ++ g.rows[k].bits.data.toList else (fun j => if j = 1 then rowsB (g.rows.take k) 0 ++ rowB g.rows[k] (edgesB (g.rows.take k)).length else if j = 2 then edgesB (g.rows.take k) ++ edgeR g.rows[k] else fiveB g k j) j) j) i = fiveB g (k + 1) i
  | 0, _ => rfl
  | 1, _ => (rows_take h).symm
  | 2, _ => (edges_take h).symm
  | 3, _ => (ends_take h).symm
  | 4, _ => (bits_take h).symm
theorem wsU8 {w0 w : World} {p : Nat → Nat} {b : Nat → List UInt8} {F : Nat → Foot} (h : WsF w0 w p b F) (i : Nat) (hi : i < 5) (q : Nat) (hq : p i = q) (x : Int) (k : Nat) (hx : x = k) (hk : k < 256) (hl : (b i).length ≤ 1000000000) :
    Calls Tryz.prog 74 #[.pointer (some ⟨q, 0, none⟩), .int .u8 x] w fun e w' => e = .returned (.tuple #[]) ∧ ∃ F', WsF w0 w' p (fun j => if j = i then b i ++ be k 1 else b j) F' ∧ Upd (F i) w w' := by
  subst hq
  exact (wrU8 (h.wr i hi) x k hx hk (by omega)).mono fun e w' ⟨k1, k2⟩ => ⟨k1, h.step hi k2⟩
theorem wsU16 {w0 w : World} {p : Nat → Nat} {b : Nat → List UInt8} {F : Nat → Foot} (h : WsF w0 w p b F) (i : Nat) (hi : i < 5) (q : Nat) (hq : p i = q) (x : Int) (k : Nat) (hx : x = k) (hk : k < 65536) (hl : (b i).length ≤ 1000000000) :
    Calls Tryz.prog 72 #[.pointer (some ⟨q, 0, none⟩), .int .u16 x] w fun e w' => e = .returned (.tuple #[]) ∧ ∃ F', WsF w0 w' p (fun j => if j = i then b i ++ be k 2 else b j) F' ∧ Upd (F i) w w' := by
  subst hq
  exact (wrU16 (h.wr i hi) x k hx hk (by omega)).mono fun e w' ⟨k1, k2⟩ => ⟨k1, h.step hi k2⟩
theorem wsU32 {w0 w : World} {p : Nat → Nat} {b : Nat → List UInt8} {F : Nat → Foot} (h : WsF w0 w p b F) (i : Nat) (hi : i < 5) (q : Nat) (hq : p i = q) (x : Int) (k : Nat) (hx : x = k) (hk : k < 4294967296) (hl : (b i).length ≤ 1000000000) :
    Calls Tryz.prog 76 #[.pointer (some ⟨q, 0, none⟩), .int .u32 x] w fun e w' => e = .returned (.tuple #[]) ∧ ∃ F', WsF w0 w' p (fun j => if j = i then b i ++ be k 4 else b j) F' ∧ Upd (F i) w w' := by
  subst hq
  exact (wrU32 (h.wr i hi) x k hx hk (by omega)).mono fun e w' ⟨k1, k2⟩ => ⟨k1, h.step hi k2⟩
theorem wsRaw {w0 w : World} {p : Nat → Nat} {b : Nat → List UInt8} {F : Nat → Foot} (h : WsF w0 w p b F) (i : Nat) (hi : i < 5) (q : Nat) (hq : p i = q) (s : ByteArray) (hl : (b i).length + s.size ≤ 1000000000) :
    Calls Tryz.prog 75 #[.pointer (some ⟨q, 0, none⟩), .string s] w fun e w' => e = .returned (.tuple #[]) ∧ ∃ F', WsF w0 w' p (fun j => if j = i then b i ++ s.data.toList else b j) F' ∧ Upd (F i) w w' := by
  subst hq
  exact (wrRaw (h.wr i hi) s (by omega)).mono fun e w' ⟨k1, k2⟩ => ⟨k1, h.step hi k2⟩
theorem wsLen {w0 w : World} {p : Nat → Nat} {b : Nat → List UInt8} {F : Nat → Foot} (h : WsF w0 w p b F) (i : Nat) (hi : i < 5) (q : Nat) (hq : p i = q) (n : Nat) (hn : (b i).length = n) :
    Calls Tryz.prog 146 #[.pointer (some ⟨q, 0, none⟩)] w fun e w' => e = .returned (.int .i64 (n : Nat)) ∧ w = w' := by
  subst hq; subst hn
  exact wrLen (h.wr i hi)
theorem wsBytes {w0 w : World} {p : Nat → Nat} {b : Nat → List UInt8} {F : Nat → Foot} (h : WsF w0 w p b F) (i : Nat) (hi : i < 5) (q : Nat) (hq : p i = q) (l : List UInt8) (hl : b i = l) :
    Calls Tryz.prog 77 #[.pointer (some ⟨q, 0, none⟩)] w fun e w' => e = .returned (.string ⟨l.toArray⟩) ∧ w = w' := by
  subst hq; subst hl
  exact wrBytes (h.wr i hi)
theorem wsRow {w0 w : World} {p : Nat → Nat} {b : Nat → List UInt8} {F : Nat → Foot} (h : WsF w0 w p b F) (q1 q2 : Nat) (h1 : p 1 = q1) (h2 : p 2 = q2) (hrb : (b 1).length ≤ 1000000) (heb : (b 2).length ≤ 1000000) (r : RowP) (n : Nat) (hn : n ≤ 1000000) (hg : GoodRow r n) (pa : Option Addr) (pc : Nat) (hpc : r.parents.length ≤ pc) (hpm : pc ≤ maxLen) (hc : CellsAt w0 pa (r.parents.flatMap natV)) :
    Calls Tryz.prog 145 #[.pointer (some ⟨q1, 0, none⟩), .pointer (some ⟨q2, 0, none⟩), .agg #[.slice pa r.parents.length pc, .int .i64 (r.tree : Nat), .int .i64 (r.gen : Nat), .int .i64 (r.st : Nat), .string r.bits]] w fun e w' => e = .returned (.tuple #[]) ∧ ∃ F', WsF w0 w' p (fun j => if j = 1 then b 1 ++ rowB r (b 2).length else if j = 2 then b 2 ++ edgeR r else b j) F' ∧ Upd (fun q => F 1 q ∨ F 2 q) w w' := by
  subst h1; subst h2
  refine (gRow (p 1) (p 2) (b 1) (b 2) (F 1) (F 2) hrb heb r n hn hg pa pc hpc hpm w ⟨h.wr 1 (by decide), h.wr 2 (by decide), h.apart 1 (by decide) 2 (by decide) (by decide)⟩ (fun hpos bl off he hG => ?_) (hc.below h.bel)).mono fun e w' ⟨k1, k2⟩ => ⟨k1, h.row k2⟩
  obtain ⟨b', off', h1, h2, _⟩ := nat_cells hc hpos
  rw [he] at h1
  cases h1
  have := h.ge 2 (by decide) bl hG
  omega
end Go.Proofs.YtbhfbdcmamodcaaGreatDoor
