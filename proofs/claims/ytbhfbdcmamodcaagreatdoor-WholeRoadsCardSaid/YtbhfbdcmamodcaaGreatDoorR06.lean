/- The whole: links of a chain: numbers, sums, the next number; The whole: is a number among those of some links?; The whole: a good chain is found good. -/
import Derived.Test.YtbhfbdcmamodcaaGreatDoorR05
import Derived.Test.YtbhfbdcmamodcaaGreatDoorProg
set_option linter.unusedVariables false
set_option linter.unusedSimpArgs false
namespace Go.Proofs.YtbhfbdcmamodcaaGreatDoor
open Go.RowKit
abbrev Link := Nat × Nat × Nat
def linkV (x : Link) : List Value := [.int .i64 (x.1 : Nat), .int .i64 (x.2.1 : Nat), .int .u32 (x.2.2 : Nat)]
theorem linkW : Wide linkV 3 := fun _ => rfl
theorem link_one (l : List Link) : ∀ u ∈ l.flatMap linkV, u.oneCell' = true := by
  intro u hu
  obtain ⟨x, _, hx⟩ := List.mem_flatMap.1 hu
  simp [linkV] at hx
  rcases hx with rfl | rfl | rfl <;> rfl
theorem link_cells {w : World} {a : Option Addr} {l : List Link} (h : CellsAt w a (l.flatMap linkV)) {k : Nat} (hk : k < l.length) :
    ∃ b off, a = some ⟨b, off, none⟩ ∧ b < w.heap.size ∧ w.cell? ⟨b, off + k * 3, none⟩ = some (.int .i64 (l[k].1 : Nat)) ∧ w.cell? ⟨b, off + k * 3 + 1, none⟩ = some (.int .i64 (l[k].2.1 : Nat)) ∧ w.cell? ⟨b, off + k * 3 + 2, none⟩ = some (.int .u32 (l[k].2.2 : Nat)) := by
  obtain ⟨b, off, h1, h2, h3⟩ := h.elem linkW hk (by decide)
  exact ⟨b, off, h1, h2, h3 0 _ rfl, h3 1 _ rfl, h3 2 _ rfl⟩
def totalL (l : List Link) : Nat := (l.map (·.2.1)).sum
theorem total_take {l : List Link} {k : Nat} (h : k < l.length) : totalL (l.take (k + 1)) = totalL (l.take k) + l[k].2.1 := by
  unfold totalL
  rw [List.take_succ_eq_append_getElem h, List.map_append, List.sum_append]
  simp only [List.map_cons, List.map_nil, List.sum_cons, List.sum_nil]
  omega
theorem total_take_le (l : List Link) : ∀ k, totalL (l.take k) ≤ totalL l := by
  intro k
  have := congrArg totalL (List.take_append_drop k l)
  simp only [totalL, List.map_append, List.sum_append] at this ⊢
  omega
theorem lcNumbered (n : Nat) (h : n ≤ 1073741824) (w : World) : Calls Tryz.prog 148 #[.int .i64 n] w fun e w' => e = .returned (.bool true) ∧ w = w' := by
  have h1 : decide ((0 : Int) ≤ (n : Int)) = true := by simp
  have h2 : decide ((n : Int) ≤ 1073741824) = true := by simp; omega
  go_enter Tryz.func148, Tryz.ntmps148
  go_wp2
  go_ret
  exact ⟨rfl, rfl⟩
set_option maxHeartbeats 1000000 in
set_option maxRecDepth 100000 in
theorem lcTotal (l : List Link) (hl : l.length ≤ 1000000) (ht : totalL l ≤ 4611686018427387904) (a : Option Addr) (c : Nat) (w : World) (h : CellsAt w a (l.flatMap linkV)) :
    Calls Tryz.prog 44 #[.slice a l.length c] w fun e w' => e = .returned (.int .i64 (totalL l : Nat)) ∧ Below w.heap.size w w' := by
  have HA := Lib.hid h
  have HT := Lib.hid (total_take_le l)
  clear h
  go_enter Tryz.func44, Tryz.ntmps44
  go_wp2
  go_loopw [3, 8] (fun nv iv wr => ∃ k : Nat, k ≤ l.length ∧ iv = .int .i64 k ∧ nv = .int .i64 (totalL (l.take k) : Nat) ∧ Below w.heap.size w wr) (fun _ iv _ => l.length - (intOf iv).toNat)
  case atStart => exact ⟨0, Nat.zero_le _, rfl, rfl, Below.refl _ _⟩
  case round =>
    obtain ⟨k, hk, rfl, rfl, hbel⟩ := hrel
    have HB := Lib.hid hbel
    clear hbel
    by_cases hlt : k < l.length
    · obtain ⟨b, off, rfl, _, p1, p2, p3⟩ := link_cells (HA.out.below HB.out) hlt
      obtain ⟨x, hx⟩ : ∃ x, l[k] = x := ⟨_, rfl⟩
      have hs := total_take hlt
      have hb2 := HT.out (k + 1)
      rw [hx] at p1 p2 p3 hs
      obtain ⟨g, hg⟩ : ∃ g, totalL (l.take k) = g := ⟨_, rfl⟩
      rw [hg] at hs
      rw [hg]
      obtain ⟨m, y, z⟩ := x
      simp only at p1 p2 p3 hs
      rw [hs] at hb2
      have HS := Lib.hid hs
      clear hx hg hs
      go_wp2
      go_roundw
      case rel => exact ⟨k + 1, by omega, by go_num, by rw [HS.out]; go_num, bl_alloc HB.out _⟩
      case measure => simp [intOf]; omega
    · have htk : l.take k = l := List.take_of_length_le (by omega)
      rw [htk]
      clear htk
      go_wp2
      go_ret
      exact ⟨rfl, HB.out⟩
end Go.Proofs.YtbhfbdcmamodcaaGreatDoor
namespace Go.Proofs.YtbhfbdcmamodcaaGreatDoor
open Go.RowKit
theorem ckNum (x : Link) (p n : Nat) (w : World) (hc : w.cell? ⟨p, 0, none⟩ = some (.int .i64 (n : Nat))) :
    Calls Tryz.prog 192 #[.agg #[.int .i64 (x.1 : Nat), .int .i64 (x.2.1 : Nat), .int .u32 (x.2.2 : Nat)], .pointer (some ⟨p, 0, none⟩)] w fun e w' => e = .returned (.bool (decide (x.1 = n))) ∧ Below w.heap.size w w' := by
  have hw : ∀ o, (w.alloc o).cell? ⟨p, 0, none⟩ = some (.int .i64 (n : Nat)) := fun o => cell_al hc o
  have hd : ((x.1 : Int) == (n : Int)) = decide (x.1 = n) := by rw [Bool.eq_iff_iff]; simp; omega
  go_enter Tryz.func192, Tryz.ntmps192
  go_wp2
  go_ret
  exact ⟨by first | rfl | simp, bl_alloc (Below.refl _ w) _⟩
theorem layNum (x : Link) (p n : Nat) (w : World) (hc : w.cell? ⟨p, 0, none⟩ = some (.int .i64 (n : Nat))) :
    Calls Tryz.prog 98 #[.agg #[.int .i64 (x.1 : Nat), .int .i64 (x.2.1 : Nat), .int .u32 (x.2.2 : Nat)], .pointer (some ⟨p, 0, none⟩)] w fun e w' => e = .returned (.bool (decide (x.1 = n))) ∧ Below w.heap.size w w' := by
  have hw : ∀ o, (w.alloc o).cell? ⟨p, 0, none⟩ = some (.int .i64 (n : Nat)) := fun o => cell_al hc o
  have hd : ((x.1 : Int) == (n : Int)) = decide (x.1 = n) := by rw [Bool.eq_iff_iff]; simp; omega
  go_enter Tryz.func98, Tryz.ntmps98
  go_wp2
  go_ret
  exact ⟨by first | rfl | simp, bl_alloc (Below.refl _ w) _⟩
set_option maxHeartbeats 1000000 in
set_option maxRecDepth 100000 in
theorem ckLinkIdx (P : Link → Bool) (cap : Value) (l : List Link) (a : Option Addr) (c : Nat) (hl : l.length ≤ maxLen) (w : World) (h : CellsAt w a (l.flatMap linkV))
    (hc : ∀ x ∈ l, ∀ W, Below w.heap.size w W → Calls Tryz.prog 192 #[.agg #[.int .i64 (x.1 : Nat), .int .i64 (x.2.1 : Nat), .int .u32 (x.2.2 : Nat)], cap] W fun e w' => e = .returned (.bool (P x)) ∧ Below W.heap.size W w') :
    Calls Tryz.prog 160 #[.slice a l.length c, .func (.func 192) #[] #[cap]] w fun e w' => (∃ k : Int, e = .returned (.int .i64 k) ∧ decide (0 ≤ k) = l.any P) ∧ Below w.heap.size w w' := by
  unfold maxLen at hl
  have HA := Lib.hid h
  have HC := Lib.hid hc
  clear h hc
  go_enter Tryz.func160, Tryz.ntmps160
  go_wp2
  go_loopw [8] (fun iv wr => ∃ k : Nat, k ≤ l.length ∧ iv = .int .i64 k ∧ (∀ i (h : i < l.length), i < k → P l[i] = false) ∧ Below w.heap.size w wr) (fun iv _ => l.length - (intOf iv).toNat)
  case atStart => exact ⟨0, Nat.zero_le _, rfl, fun i _ h => absurd h (Nat.not_lt_zero _), Below.refl _ _⟩
  case round =>
    obtain ⟨k, hk, rfl, hn, hb⟩ := hrel
    have HN := Lib.hid hn; have HB := Lib.hid hb
    clear hn hb
    by_cases hlt : k < l.length
    · obtain ⟨b, off, rfl, _, p1, p2, p3⟩ := link_cells (HA.out.below HB.out) hlt
      have HCx := Lib.hid (fun W hW => HC.out l[k] (List.getElem_mem hlt) W hW)
      obtain ⟨x, hx⟩ : ∃ x, l[k] = x := ⟨_, rfl⟩
      rw [hx] at p1 p2 p3 HCx
      have HX := Lib.hid hx
      clear hx
      obtain ⟨r, hr⟩ : ∃ r, P x = r := ⟨_, rfl⟩
      rw [hr] at HCx
      have HR := Lib.hid hr
      clear hr
      cases r with
      | true =>
        go_wp2_with (go_at_call 192; (with_reducible refine (HCx.out _ HB.out).mono ?_); rintro e w2 ⟨rfl, hb⟩; have HB2 := Lib.hid (bl_trans HB.out hb); clear hb)
        go_ret
        refine ⟨⟨_, rfl, ?_⟩, HB2.out⟩
        have : l.any P = true := List.any_eq_true.2 ⟨l[k], List.getElem_mem hlt, by rw [HX.out]; exact HR.out⟩
        rw [this]; simp
      | false =>
        go_wp2_with (go_at_call 192; (with_reducible refine (HCx.out _ HB.out).mono ?_); rintro e w2 ⟨rfl, hb⟩; have HB2 := Lib.hid (bl_trans HB.out hb); clear hb)
        go_roundw
        case rel => exact ⟨k + 1, by omega, by go_num, fun i hi h => by
          rcases Nat.lt_or_ge i k with h1 | h1
          · exact HN.out i hi h1
          · obtain rfl : i = k := by omega
            rw [HX.out]; exact HR.out, HB2.out⟩
        case measure => simp [intOf]; omega
    · obtain rfl : k = l.length := by omega
      go_wp2
      go_ret
      refine ⟨⟨_, rfl, ?_⟩, HB.out⟩
      have : l.any P = false := by
        rw [List.any_eq_false]
        intro x hx
        obtain ⟨i, hi, rfl⟩ := List.mem_iff_getElem.1 hx
        simpa using HN.out i hi hi
      rw [this]; simp
theorem ckLinkHas (P : Link → Bool) (cap : Value) (l : List Link) (a : Option Addr) (c : Nat) (hl : l.length ≤ maxLen) (w : World) (h : CellsAt w a (l.flatMap linkV))
    (hc : ∀ x ∈ l, ∀ W, Below w.heap.size w W → Calls Tryz.prog 192 #[.agg #[.int .i64 (x.1 : Nat), .int .i64 (x.2.1 : Nat), .int .u32 (x.2.2 : Nat)], cap] W fun e w' => e = .returned (.bool (P x)) ∧ Below W.heap.size W w') :
    Calls Tryz.prog 97 #[.slice a l.length c, .func (.func 192) #[] #[cap]] w fun e w' => e = .returned (.bool (l.any P)) ∧ Below w.heap.size w w' := by
  have HI := Lib.hid (ckLinkIdx P cap l a c hl w h hc)
  clear h hc
  go_enter Tryz.func97, Tryz.ntmps97
  go_wp2_with (go_at_call 160; (with_reducible refine HI.out.mono ?_); rintro e w2 ⟨⟨k, rfl, hk⟩, hb⟩; have HB := Lib.hid hb; clear hb)
  go_ret
  exact ⟨by rw [← hk]; rfl, HB.out⟩
set_option maxHeartbeats 1000000 in
set_option maxRecDepth 100000 in
theorem layLinkIdx (P : Link → Bool) (cap : Value) (l : List Link) (a : Option Addr) (c : Nat) (hl : l.length ≤ maxLen) (w : World) (h : CellsAt w a (l.flatMap linkV))
    (hc : ∀ x ∈ l, ∀ W, Below w.heap.size w W → Calls Tryz.prog 98 #[.agg #[.int .i64 (x.1 : Nat), .int .i64 (x.2.1 : Nat), .int .u32 (x.2.2 : Nat)], cap] W fun e w' => e = .returned (.bool (P x)) ∧ Below W.heap.size W w') :
    Calls Tryz.prog 160 #[.slice a l.length c, .func (.func 98) #[] #[cap]] w fun e w' => (∃ k : Int, e = .returned (.int .i64 k) ∧ decide (0 ≤ k) = l.any P) ∧ Below w.heap.size w w' := by
  unfold maxLen at hl
  have HA := Lib.hid h
  have HC := Lib.hid hc
  clear h hc
  go_enter Tryz.func160, Tryz.ntmps160
  go_wp2
  go_loopw [8] (fun iv wr => ∃ k : Nat, k ≤ l.length ∧ iv = .int .i64 k ∧ (∀ i (h : i < l.length), i < k → P l[i] = false) ∧ Below w.heap.size w wr) (fun iv _ => l.length - (intOf iv).toNat)
  case atStart => exact ⟨0, Nat.zero_le _, rfl, fun i _ h => absurd h (Nat.not_lt_zero _), Below.refl _ _⟩
  case round =>
    obtain ⟨k, hk, rfl, hn, hb⟩ := hrel
    have HN := Lib.hid hn; have HB := Lib.hid hb
    clear hn hb
    by_cases hlt : k < l.length
    · obtain ⟨b, off, rfl, _, p1, p2, p3⟩ := link_cells (HA.out.below HB.out) hlt
      have HCx := Lib.hid (fun W hW => HC.out l[k] (List.getElem_mem hlt) W hW)
      obtain ⟨x, hx⟩ : ∃ x, l[k] = x := ⟨_, rfl⟩
      rw [hx] at p1 p2 p3 HCx
      have HX := Lib.hid hx
      clear hx
      obtain ⟨r, hr⟩ : ∃ r, P x = r := ⟨_, rfl⟩
      rw [hr] at HCx
      have HR := Lib.hid hr
      clear hr
      cases r with
      | true =>
        go_wp2_with (go_at_call 98; (with_reducible refine (HCx.out _ HB.out).mono ?_); rintro e w2 ⟨rfl, hb⟩; have HB2 := Lib.hid (bl_trans HB.out hb); clear hb)
        go_ret
        refine ⟨⟨_, rfl, ?_⟩, HB2.out⟩
        have : l.any P = true := List.any_eq_true.2 ⟨l[k], List.getElem_mem hlt, by rw [HX.out]; exact HR.out⟩
        rw [this]; simp
      | false =>
        go_wp2_with (go_at_call 98; (with_reducible refine (HCx.out _ HB.out).mono ?_); rintro e w2 ⟨rfl, hb⟩; have HB2 := Lib.hid (bl_trans HB.out hb); clear hb)
        go_roundw
        case rel => exact ⟨k + 1, by omega, by go_num, fun i hi h => by
          rcases Nat.lt_or_ge i k with h1 | h1
          · exact HN.out i hi h1
          · obtain rfl : i = k := by omega
            rw [HX.out]; exact HR.out, HB2.out⟩
        case measure => simp [intOf]; omega
    · obtain rfl : k = l.length := by omega
      go_wp2
      go_ret
      refine ⟨⟨_, rfl, ?_⟩, HB.out⟩
      have : l.any P = false := by
        rw [List.any_eq_false]
        intro x hx
        obtain ⟨i, hi, rfl⟩ := List.mem_iff_getElem.1 hx
        simpa using HN.out i hi hi
      rw [this]; simp
theorem layLinkHas (P : Link → Bool) (cap : Value) (l : List Link) (a : Option Addr) (c : Nat) (hl : l.length ≤ maxLen) (w : World) (h : CellsAt w a (l.flatMap linkV))
    (hc : ∀ x ∈ l, ∀ W, Below w.heap.size w W → Calls Tryz.prog 98 #[.agg #[.int .i64 (x.1 : Nat), .int .i64 (x.2.1 : Nat), .int .u32 (x.2.2 : Nat)], cap] W fun e w' => e = .returned (.bool (P x)) ∧ Below W.heap.size W w') :
    Calls Tryz.prog 97 #[.slice a l.length c, .func (.func 98) #[] #[cap]] w fun e w' => e = .returned (.bool (l.any P)) ∧ Below w.heap.size w w' := by
  have HI := Lib.hid (layLinkIdx P cap l a c hl w h hc)
  clear h hc
  go_enter Tryz.func97, Tryz.ntmps97
  go_wp2_with (go_at_call 160; (with_reducible refine HI.out.mono ?_); rintro e w2 ⟨⟨k, rfl, hk⟩, hb⟩; have HB := Lib.hid hb; clear hb)
  go_ret
  exact ⟨by rw [← hk]; rfl, HB.out⟩
end Go.Proofs.YtbhfbdcmamodcaaGreatDoor
namespace Go.Proofs.YtbhfbdcmamodcaaGreatDoor
open Go.RowKit
structure GoodChain (l : List Link) : Prop where
  len : l.length ≤ 8
  num : ∀ x ∈ l, x.1 ≤ 1073741824
  cnt : ∀ x ∈ l, 1 ≤ x.2.1 ∧ x.2.1 ≤ 65536
  sum : ∀ x ∈ l, x.2.2 < 4294967296
  alone : (l.map (·.1)).Nodup
  total : totalL l ≤ 65536
theorem GoodChain.new {l : List Link} (h : GoodChain l) {k : Nat} (hk : k < l.length) : (l.take k).any (fun x => decide (x.1 = l[k].1)) = false := by
  rw [List.any_eq_false]
  intro x hx
  obtain ⟨i, hi, rfl⟩ := List.mem_iff_getElem.1 hx
  simp only [List.length_take] at hi
  rw [List.getElem_take]
  simp only [decide_eq_true_eq]
  intro e
  have hn := List.nodup_iff_pairwise_ne.1 h.alone
  rw [List.pairwise_iff_getElem] at hn
  have := hn i k (by simp; omega) (by simpa using hk) (by omega)
  simp at this
  exact this e
set_option maxHeartbeats 2000000 in
set_option maxRecDepth 100000 in
theorem lcCheck (l : List Link) (hg : GoodChain l) (a : Option Addr) (c : Nat) (hlc : l.length ≤ c) (hcm : c ≤ maxLen) (w : World) (h : CellsAt w a (l.flatMap linkV)) :
    Calls Tryz.prog 136 #[.slice a l.length c] w fun e w' => e = .returned (.int .i64 0) ∧ Below w.heap.size w w' := by
  unfold maxLen at hcm
  have HA := Lib.hid h
  have HG := Lib.hid hg
  have hln := hg.len
  have h8 : decide ((l.length : Int) > 8) = false := by simp; omega
  clear h hg
  go_enter Tryz.func136, Tryz.ntmps136
  go_wp2
  go_loopw [10] (fun iv wr => ∃ k : Nat, k ≤ l.length ∧ iv = .int .i64 k ∧ Below w.heap.size w wr) (fun iv _ => l.length - (intOf iv).toNat)
  case atStart => exact ⟨0, Nat.zero_le _, rfl, Below.refl _ _⟩
  case round =>
    obtain ⟨k, hk, rfl, hb⟩ := hrel
    have HB := Lib.hid hb
    clear hb
    by_cases hlt : k < l.length
    · obtain ⟨b, off, rfl, _, p1, p2, p3⟩ := link_cells (HA.out.below HB.out) hlt
      have HN := Lib.hid (HG.out.new hlt)
      have hm := List.getElem_mem hlt
      have hnum := HG.out.num _ hm; have hc1 := (HG.out.cnt _ hm).1; have hc2 := (HG.out.cnt _ hm).2
      have htt := Nat.le_trans (total_take_le l (k + 1)) HG.out.total
      have HT := Lib.hid (fun W hW => lcTotal (l.take (k + 1)) (by rw [List.length_take]; omega) (by omega) (some ⟨b, off, none⟩) c W (hW : CellsAt W (some ⟨b, off, none⟩) ((l.take (k + 1)).flatMap linkV)))
      rw [show (l.take (k + 1)).length = k + 1 from by rw [List.length_take]; omega] at HT
      have hlk : (l.take k).length = k := by rw [List.length_take]; omega
      have HK := Lib.hid (fun p W hW => ckLinkHas (fun x => decide (x.1 = l[k].1)) (.pointer (some ⟨p, 0, none⟩)) (l.take k) (some ⟨b, off, none⟩) c (by rw [hlk]; unfold maxLen; omega) W (hW : CellsAt W (some ⟨b, off, none⟩) ((l.take k).flatMap linkV)))
      rw [hlk, HN.out] at HK
      clear hm HN hlk
      obtain ⟨x, hx⟩ : ∃ x, l[k] = x := ⟨_, rfl⟩
      rw [hx] at p1 p2 p3 hnum hc1 hc2 HK
      obtain ⟨m, y, z⟩ := x
      simp only at p1 p2 p3 hnum hc1 hc2 HK
      have hd1 : decide ((y : Int) < 1) = false := by simp; omega
      have hd2 : decide ((y : Int) > 65536) = false := by simp; omega
      obtain ⟨t, ht⟩ : ∃ t, totalL (l.take (k + 1)) = t := ⟨_, rfl⟩
      rw [ht] at htt HT
      have hd3 : decide ((t : Int) > 65536) = false := by simp; omega
      have HNum := Lib.hid (fun W => lcNumbered m hnum W)
      obtain ⟨W1, hW1⟩ : ∃ W1, wr.alloc (.cells #[.int .i64 (m : Nat), .int .i64 (y : Nat), .int .u32 (z : Nat)] 149) = W1 := ⟨_, rfl⟩
      have hB1 : Below w.heap.size w W1 := by rw [← hW1]; exact bl_alloc HB.out _
      have q1 : W1.cell? ⟨wr.heap.size, 0, none⟩ = some (.int .i64 (m : Nat)) := by rw [← hW1, World.cell?_alloc_new]; rfl
      have q2 : W1.cell? ⟨wr.heap.size, 1, none⟩ = some (.int .i64 (y : Nat)) := by rw [← hW1, World.cell?_alloc_mark]; rfl
      have HW1 := Lib.hid hW1; have HB1 := Lib.hid hB1; have HQ := Lib.hid q1
      clear hx ht hW1 hB1 hnum hc1 hc2 htt
      go_wp2_with fail
      rw [HW1.out]
      go_wp2_with fail
      (with_reducible refine (HNum.out W1).mono ?_)
      rintro e w2 ⟨rfl, rfl⟩
      go_wp2_with fail
      (with_reducible refine (HK.out wr.heap.size W1 ((HA.out.below HB1.out).take k) ?_).mono ?_)
      · intro x hx W hW
        exact ckNum x wr.heap.size m W (bl_cell hW HQ.out)
      rintro e w2 ⟨rfl, hb⟩
      have HB2 := Lib.hid (bl_trans HB1.out hb)
      clear hb
      go_wp2_with fail
      (with_reducible refine (HT.out w2 ((HA.out.below HB2.out).take (k + 1))).mono ?_)
      rintro e w3 ⟨rfl, hb⟩
      have HB3 := Lib.hid (bl_trans HB2.out hb)
      clear hb
      go_wp2
      go_roundw
      case rel => exact ⟨k + 1, by omega, by go_num, HB3.out⟩
      case measure => simp [intOf]; omega
    · go_wp2
      go_ret
      exact ⟨rfl, HB.out⟩
end Go.Proofs.YtbhfbdcmamodcaaGreatDoor
