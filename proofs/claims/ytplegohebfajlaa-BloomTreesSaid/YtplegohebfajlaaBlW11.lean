/- Walk of the law BloomMakes. -/
import Derived.Test.YtplegohebfajlaaBlMay
set_option linter.unusedVariables false
set_option linter.unusedSimpArgs false
namespace Go.Proofs.Ytplegohebfajlaa
open Go.RowKit BlMath Go.Maps

theorem strs_take {w : World} {a : Option Addr} {ss : List ByteArray} (h : StrsAt w a ss) (n : Nat) : StrsAt w a (ss.take n) := fun i hi => by
  have hi2 : i < ss.length := by rw [List.length_take] at hi; omega
  have := h i hi2
  rw [List.getElem_take]
  exact this
theorem strs_own {B : Nat} {w : World} {g c : Nat} {l : List ByteArray} (h : w.ownsRow B 9 1 (.slice (some ⟨g, 0, none⟩) l.length c) l.length (strsV l)) (hz : ∀ s ∈ l, s.size ≤ maxLen) : StrsAt w (some ⟨g, 0, none⟩) l := fun i hi => by
  refine ⟨hz _ (List.getElem_mem hi), g, 0, rfl, ?_⟩
  rw [Nat.zero_add, h.cellAt i (by omega)]
  simp [strsV, hi]
theorem strs_src {w : World} {a : Option Addr} {l : List ByteArray} (h : StrsAt w a l) : ∀ ad, a = some ad → ∀ j u, (strsV l)[j]? = some u → w.cell? (ad.add j) = some u := by
  intro ad had j u hu
  have hj : j < l.length := by
    have := (List.getElem?_eq_some_iff.1 hu).1
    simpa [strsV] using this
  obtain ⟨_, b, off, e, hc⟩ := h j hj
  rw [had] at e
  obtain rfl := Option.some.inj e
  rw [add_form, hc]
  rw [← hu]
  simp [strsV, hj]
theorem strs_one (l : List ByteArray) : ∀ u ∈ strsV l, u.oneCell' = true := by
  intro u hu
  obtain ⟨_, _, rfl⟩ := List.mem_map.1 hu
  rfl
theorem strs_own2 {B : Nat} {w : World} {g c n : Nat} {l : List ByteArray} {xs : List Value} (h : w.ownsRow B 9 1 (.slice (some ⟨g, 0, none⟩) n c) n xs) (hx : xs = strsV l) (hn : n = l.length) (hz : ∀ s ∈ l, s.size ≤ maxLen) : StrsAt w (some ⟨g, 0, none⟩) l := by
  subst hx; subst hn
  exact strs_own h hz
theorem mk_open {er st : Nat} {b : ByteArray} {w w' : World} {r : Ending} (h : MkSaid (er, (st, b)) w r w') : r = .returned (.tuple #[.agg #[.int .i64 st, .string b], .int .i64 er]) ∧ Below w.heap.size w w' := h
/-- A filter's box. -/
def BoxF (w : World) (q st : Nat) (b : ByteArray) : Prop := w.cell? ⟨q, 0, none⟩ = some (.int .i64 st) ∧ w.cell? ⟨q, 1, none⟩ = some (.string b)
theorem BoxF.below {w w' : World} {q st : Nat} {b : ByteArray} (h : BoxF w q st b) (hb : Below w.heap.size w w') : BoxF w' q st b := ⟨bl_cell hb h.1, bl_cell hb h.2⟩
theorem boxF_new (w : World) (st : Nat) (b : ByteArray) (t : TypeId) : BoxF (w.alloc (.cells #[.int .i64 st, .string b] t)) w.heap.size st b := ⟨by rw [World.cell?_alloc_mark]; rfl, by rw [World.cell?_alloc_mark]; rfl⟩

set_option maxHeartbeats 2000000 in
set_option maxRecDepth 100000 in
theorem bloomMakes_short (H P M : Int) (S : Nat) (hS : S < 4294967296) (a : Option Addr) (cap : Nat) (ss : List ByteArray) (hl : ss.length ≤ cap) (hcm : cap ≤ maxLen) (hnone : a = none → cap = 0) (w : World) (hs : StrsAt w a ss) (h1000 : ss.length ≤ 1000) :
    Calls Try.prog 5 #[.agg #[.int .i64 H, .int .i64 P, .int .i64 M, .int .u32 S], .slice a ss.length cap] w fun e w' => e = .returned (.bool true) ∧ Below w.heap.size w w' := by
  unfold maxLen at hcm
  obtain ⟨i0, hi, hz0, hz1, hz2⟩ := info_parts infoStr
  have hT : StrsAt w a (ss.take ss.length) := strs_take hs _
  have hTl : (ss.take ss.length).length = ss.length := by rw [List.length_take]; omega
  have HNA := Lib.hid (show a = none → ss.length = 0 ∧ cap = 0 from fun h => ⟨by have := hnone h; omega, hnone h⟩)
  have hmn : (ss.length : Int) ≤ 1000 := by omega
  have hls : (ss.length : Int) ≤ 9223372036854775807 := by omega
  have hlc : (ss.length : Int) ≤ cap := by omega
  have hmc : ss.length ≤ cap := by omega
  have hm1 : ss.length ≤ 1000 := by omega
  clear hs hnone h1000
  generalize ss.take ss.length = ts at *
  generalize ss.length = m at *
  have HTL := Lib.hid hTl
  have hz : ∀ s ∈ ts, s.size ≤ maxLen := fun s h => by obtain ⟨i, hi, rfl⟩ := List.getElem_of_mem h; exact (hT i hi).1
  have HZ := Lib.hid hz
  have HT := Lib.hid hT
  have M1 := Lib.hid (fun W A c n (hn : n = ts.length) (hW : StrsAt W A ts) => show Calls Try.prog 16 #[.agg #[.int .i64 H, .int .i64 P, .int .i64 M, .int .u32 S], .slice A n c] W (MkSaid (makeR H P M S ts) W) from by subst hn; exact blMake H P M S hS A c ts (by unfold maxLen; omega) W hW)
  have M2 := Lib.hid (fun W A c n (hn : n = ts.length) (hW : StrsAt W A ts) => show Calls Try.prog 17 #[.agg #[.int .i64 H, .int .i64 P, .int .i64 M, .int .u32 S], .slice A n c] W (MkSaid (makeR H P M S ts) W) from by subst hn; exact xMake H P M S hS A c ts (by unfold maxLen; omega) W hW)
  have HMAY := Lib.hid (fun p (hp : p ∈ ts) W => show Calls Try.prog 18 #[.agg #[.int .i64 H, .int .i64 P, .int .i64 M, .int .u32 S], .agg #[.int .i64 ((makeR H P M S ts).2.1 : Nat), .string (makeR H P M S ts).2.2], .string p] W fun e w' => e = .returned (.bool true) ∧ Below W.heap.size W w' from by
    have h := blMay H P M S hS ((makeR H P M S ts).2.1 : Nat) (makeR H P M S ts).2.2 p (Nat.le_trans make_size (by decide)) (hz p hp) W
    rw [make_may hp] at h
    exact h)
  clear hz hT hTl
  generalize makeR H P M S ts = R at *
  obtain ⟨er, st, bits⟩ := R
  have HS0 := Lib.hid (set_new w H P M S 27)
  have HB0 := Lib.hid (bl_alloc (Below.refl _ w) (.cells #[.int .i64 H, .int .i64 P, .int .i64 M, .int .u32 S] 27))
  go_enter Try.func5, Try.ntmps5
  go_wp2_with (first
    | (go_at_call 8; (with_reducible refine (blFilters _).mono ?_); rintro r w1 ⟨rfl, hb⟩; have HS1 := Lib.hid (HS0.out.below hb); have HB1 := Lib.hid (HB0.out.trans (hb.mono HB0.out.size)); have HSZ1 := Lib.hid (World.block_lt_of_cell? w1 _ (HS0.out.below hb).1); clear hb)
    | (refine wpList_make_own _ rfl (.const (.int .i64 0)) (.tmp 21) 34 rfl w1.heap.size 9 i0 (.string ⟨#[]⟩) 1 Try.underlying34 hi hz0 hz1 .i64 .i64 _ (m + 1) rfl rfl (by omega) (by rw [hz2]; omega) (by unfold maxLen; omega) (Nat.le_refl _) ?_; intro w2 hown hg; have HO2 := Lib.hid hown; have hb2 := below_of_grown hg (fun g h => by cases h); have HB2 := Lib.hid (HB1.out.trans (hb2.mono HB1.out.size)); have HT2 := Lib.hid (HT.out.below HB2.out (Nat.le_refl _)); have HS2 := Lib.hid (HS1.out.below hb2); have HZ2 := Lib.hid hb2.size; clear hown hg hb2)
    | (at_builtin; refine wpList_append_fits_any _ rfl (.tmp 22) (.tmp 23) 34 rfl w1.heap.size 9 i0 1 Try.underlying34 hi hz1 w1.heap.size 0 (m + 1) [] rfl HO2.out a m cap (strsV ts) rfl (by rw [strsV, List.length_map, HTL.out, Nat.mul_one]) HNA.out (strs_src HT2.out) (strs_one ts) (by omega) ?_; intro w3 hown hg; have HO3 := Lib.hid hown; have HB3 := Lib.hid (HB2.out.grown hg (by have := HB2.out.size; omega) (fun j hj => by cases hj; exact HB1.out.size)); have HS3 := Lib.hid (HS2.out.grown hg (fun e => absurd (Option.some.inj e) (Nat.ne_of_lt HSZ1.out))); obtain ⟨s0, s1, s2, s3⟩ := HS3.out; have HC3 := Lib.hid (strs_own2 hown (by simp) (by have := HTL.out; omega) HZ.out); have HT3 := Lib.hid (HT.out.below (HB2.out.grown hg (by have := HB2.out.size; omega) (fun j hj => by cases hj; exact HB1.out.size)) (Nat.le_refl _)); clear hown hg))
  go_wp2_with (go_at_call 16; (with_reducible refine (M1.out w3 (some ⟨w1.heap.size, 0, none⟩) (m + 1) m HTL.out.symm HC3.out).mono ?_); intro r w4 hmk; obtain ⟨rfl, hb⟩ := mk_open hmk; have HB4 := Lib.hid (HB3.out.trans (hb.mono HB3.out.size)); have hx := bl_trans hb (bl_alloc (Below.refl _ w4) (.cells #[.int .i64 st, .string bits] 36)); obtain ⟨s0, s1, s2, s3⟩ := HS3.out.below hx; have HS4 := Lib.hid (HS3.out.below hx); have HC4 := Lib.hid (HC3.out.below hx (Nat.le_refl _)); have HT4 := Lib.hid (HT3.out.below hx (Nat.le_refl _)); have HB4' := Lib.hid (HB3.out.trans (hx.mono HB3.out.size)); have HF4 := Lib.hid (boxF_new w4 st bits 36); clear hb hx hmk)
  generalize w4.alloc (.cells #[.int .i64 st, .string bits] 36) = x4 at *
  go_wp2_with (go_at_call 17; (with_reducible refine (M2.out _ _ _ _ HTL.out.symm HT4.out).mono ?_); intro r w5 hmk; obtain ⟨rfl, hb⟩ := mk_open hmk; have hx := bl_trans hb (bl_alloc (Below.refl _ w5) (.cells #[.int .i64 st, .string bits] 36)); have HS5 := Lib.hid (HS4.out.below hx); have HC5 := Lib.hid (HC4.out.below hx (Nat.le_refl _)); have HT5 := Lib.hid (HT4.out.below hx (Nat.le_refl _)); have HB5 := Lib.hid (HB4'.out.trans (hx.mono HB4'.out.size)); have HF5 := Lib.hid (HF4.out.below hx); have HG5 := Lib.hid (boxF_new w5 st bits 36); obtain ⟨f0, f1⟩ := HF4.out.below hx; obtain ⟨g0, g1⟩ := boxF_new w5 st bits 36; clear hb hx hmk)
  generalize w5.alloc (.cells #[.int .i64 st, .string bits] 36) = x5 at *
  go_loopw [47] (fun i wr => ∃ j : Nat, j ≤ m ∧ i = .int .i64 j ∧ Below x5.heap.size x5 wr) (fun i _ => m - (intOf i).toNat)
  case atStart => exact ⟨0, Nat.zero_le _, rfl, Below.refl _ _⟩
  case round =>
    obtain ⟨j, hj, rfl, hbb⟩ := hrel
    have HBB := Lib.hid hbb
    clear hbb f0 f1 g0 g1 s0 s1 s2 s3
    by_cases hlt : j < m
    · have hjt : j < ts.length := by have := HTL.out; omega
      obtain ⟨_, b0, off, rfl, hc1⟩ := HT5.out.below HBB.out (Nat.le_refl _) j hjt
      obtain ⟨_, b1, off1, hbe, hc2⟩ := HC5.out.below HBB.out (Nat.le_refl _) j hjt
      obtain ⟨rfl, rfl⟩ : w1.heap.size = b1 ∧ 0 = off1 := by simpa using hbe
      rw [Nat.zero_add] at hc2
      clear hbe
      have HMP := Lib.hid (List.getElem_mem hjt)
      generalize ts[j] = p at *
      have HMAYp := Lib.hid (fun W => HMAY.out p HMP.out W)
      obtain ⟨s0, s1, s2, s3⟩ := HS5.out.below HBB.out
      obtain ⟨f0, f1⟩ := HF5.out.below HBB.out
      go_wp2_with (go_at_call 18; (with_reducible refine (HMAYp.out _).mono ?_); rintro r w6 ⟨rfl, hb⟩; have HB6 := Lib.hid (HBB.out.trans (hb.mono HBB.out.size)); clear hb)
      go_roundw
      case rel => exact ⟨j + 1, by omega, by go_num, HB6.out⟩
      case measure => simp [intOf]; omega
    · go_wp2
      go_ret
      exact ⟨rfl, HB5.out.trans (HBB.out.mono HB5.out.size)⟩
set_option maxHeartbeats 2000000 in
set_option maxRecDepth 100000 in
theorem bloomMakes_long (H P M : Int) (S : Nat) (hS : S < 4294967296) (a : Option Addr) (cap : Nat) (ss : List ByteArray) (hl : ss.length ≤ cap) (hcm : cap ≤ maxLen) (hnone : a = none → cap = 0) (w : World) (hs : StrsAt w a ss) (h1000 : ¬ ss.length ≤ 1000) :
    Calls Try.prog 5 #[.agg #[.int .i64 H, .int .i64 P, .int .i64 M, .int .u32 S], .slice a ss.length cap] w fun e w' => e = .returned (.bool true) ∧ Below w.heap.size w w' := by
  unfold maxLen at hcm
  obtain ⟨i0, hi, hz0, hz1, hz2⟩ := info_parts infoStr
  have hT : StrsAt w a (ss.take 1000) := strs_take hs _
  have hTl : (ss.take 1000).length = 1000 := by rw [List.length_take]; omega
  have HNA := Lib.hid (show a = none → 1000 = 0 ∧ cap = 0 from fun h => ⟨by have := hnone h; omega, hnone h⟩)
  have hmn : ¬ ((ss.length : Int) ≤ 1000) := by omega
  have hls : (ss.length : Int) ≤ 9223372036854775807 := by omega
  have hlc : (ss.length : Int) ≤ cap := by omega
  have hmc : 1000 ≤ cap := by omega
  have hm1 : 1000 ≤ 1000 := by omega
  clear hs hnone h1000
  generalize ss.take 1000 = ts at *
  have HTL := Lib.hid hTl
  have hz : ∀ s ∈ ts, s.size ≤ maxLen := fun s h => by obtain ⟨i, hi, rfl⟩ := List.getElem_of_mem h; exact (hT i hi).1
  have HZ := Lib.hid hz
  have HT := Lib.hid hT
  have M1 := Lib.hid (fun W A c n (hn : n = ts.length) (hW : StrsAt W A ts) => show Calls Try.prog 16 #[.agg #[.int .i64 H, .int .i64 P, .int .i64 M, .int .u32 S], .slice A n c] W (MkSaid (makeR H P M S ts) W) from by subst hn; exact blMake H P M S hS A c ts (by unfold maxLen; omega) W hW)
  have M2 := Lib.hid (fun W A c n (hn : n = ts.length) (hW : StrsAt W A ts) => show Calls Try.prog 17 #[.agg #[.int .i64 H, .int .i64 P, .int .i64 M, .int .u32 S], .slice A n c] W (MkSaid (makeR H P M S ts) W) from by subst hn; exact xMake H P M S hS A c ts (by unfold maxLen; omega) W hW)
  have HMAY := Lib.hid (fun p (hp : p ∈ ts) W => show Calls Try.prog 18 #[.agg #[.int .i64 H, .int .i64 P, .int .i64 M, .int .u32 S], .agg #[.int .i64 ((makeR H P M S ts).2.1 : Nat), .string (makeR H P M S ts).2.2], .string p] W fun e w' => e = .returned (.bool true) ∧ Below W.heap.size W w' from by
    have h := blMay H P M S hS ((makeR H P M S ts).2.1 : Nat) (makeR H P M S ts).2.2 p (Nat.le_trans make_size (by decide)) (hz p hp) W
    rw [make_may hp] at h
    exact h)
  clear hz hT hTl
  generalize makeR H P M S ts = R at *
  obtain ⟨er, st, bits⟩ := R
  have HS0 := Lib.hid (set_new w H P M S 27)
  have HB0 := Lib.hid (bl_alloc (Below.refl _ w) (.cells #[.int .i64 H, .int .i64 P, .int .i64 M, .int .u32 S] 27))
  go_enter Try.func5, Try.ntmps5
  go_wp2_with (first
    | (go_at_call 8; (with_reducible refine (blFilters _).mono ?_); rintro r w1 ⟨rfl, hb⟩; have HS1 := Lib.hid (HS0.out.below hb); have HB1 := Lib.hid (HB0.out.trans (hb.mono HB0.out.size)); have HSZ1 := Lib.hid (World.block_lt_of_cell? w1 _ (HS0.out.below hb).1); clear hb)
    | (refine wpList_make_own _ rfl (.const (.int .i64 0)) (.tmp 21) 34 rfl w1.heap.size 9 i0 (.string ⟨#[]⟩) 1 Try.underlying34 hi hz0 hz1 .i64 .i64 _ (1000 + 1) rfl rfl (by omega) (by rw [hz2]; omega) (by unfold maxLen; omega) (Nat.le_refl _) ?_; intro w2 hown hg; have HO2 := Lib.hid hown; have hb2 := below_of_grown hg (fun g h => by cases h); have HB2 := Lib.hid (HB1.out.trans (hb2.mono HB1.out.size)); have HT2 := Lib.hid (HT.out.below HB2.out (Nat.le_refl _)); have HS2 := Lib.hid (HS1.out.below hb2); have HZ2 := Lib.hid hb2.size; clear hown hg hb2)
    | (at_builtin; refine wpList_append_fits_any _ rfl (.tmp 22) (.tmp 23) 34 rfl w1.heap.size 9 i0 1 Try.underlying34 hi hz1 w1.heap.size 0 (1000 + 1) [] rfl HO2.out a 1000 cap (strsV ts) rfl (by rw [strsV, List.length_map, HTL.out, Nat.mul_one]) HNA.out (strs_src HT2.out) (strs_one ts) (by omega) ?_; intro w3 hown hg; have HO3 := Lib.hid hown; have HB3 := Lib.hid (HB2.out.grown hg (by have := HB2.out.size; omega) (fun j hj => by cases hj; exact HB1.out.size)); have HS3 := Lib.hid (HS2.out.grown hg (fun e => absurd (Option.some.inj e) (Nat.ne_of_lt HSZ1.out))); obtain ⟨s0, s1, s2, s3⟩ := HS3.out; have HC3 := Lib.hid (strs_own2 hown (by simp) (by have := HTL.out; omega) HZ.out); have HT3 := Lib.hid (HT.out.below (HB2.out.grown hg (by have := HB2.out.size; omega) (fun j hj => by cases hj; exact HB1.out.size)) (Nat.le_refl _)); clear hown hg))
  go_wp2_with (go_at_call 16; (with_reducible refine (M1.out w3 (some ⟨w1.heap.size, 0, none⟩) (1000 + 1) 1000 HTL.out.symm HC3.out).mono ?_); intro r w4 hmk; obtain ⟨rfl, hb⟩ := mk_open hmk; have HB4 := Lib.hid (HB3.out.trans (hb.mono HB3.out.size)); have hx := bl_trans hb (bl_alloc (Below.refl _ w4) (.cells #[.int .i64 st, .string bits] 36)); obtain ⟨s0, s1, s2, s3⟩ := HS3.out.below hx; have HS4 := Lib.hid (HS3.out.below hx); have HC4 := Lib.hid (HC3.out.below hx (Nat.le_refl _)); have HT4 := Lib.hid (HT3.out.below hx (Nat.le_refl _)); have HB4' := Lib.hid (HB3.out.trans (hx.mono HB3.out.size)); have HF4 := Lib.hid (boxF_new w4 st bits 36); clear hb hx hmk)
  generalize w4.alloc (.cells #[.int .i64 st, .string bits] 36) = x4 at *
  go_wp2_with (go_at_call 17; (with_reducible refine (M2.out _ _ _ _ HTL.out.symm HT4.out).mono ?_); intro r w5 hmk; obtain ⟨rfl, hb⟩ := mk_open hmk; have hx := bl_trans hb (bl_alloc (Below.refl _ w5) (.cells #[.int .i64 st, .string bits] 36)); have HS5 := Lib.hid (HS4.out.below hx); have HC5 := Lib.hid (HC4.out.below hx (Nat.le_refl _)); have HT5 := Lib.hid (HT4.out.below hx (Nat.le_refl _)); have HB5 := Lib.hid (HB4'.out.trans (hx.mono HB4'.out.size)); have HF5 := Lib.hid (HF4.out.below hx); have HG5 := Lib.hid (boxF_new w5 st bits 36); obtain ⟨f0, f1⟩ := HF4.out.below hx; obtain ⟨g0, g1⟩ := boxF_new w5 st bits 36; clear hb hx hmk)
  generalize w5.alloc (.cells #[.int .i64 st, .string bits] 36) = x5 at *
  go_loopw [47] (fun i wr => ∃ j : Nat, j ≤ 1000 ∧ i = .int .i64 j ∧ Below x5.heap.size x5 wr) (fun i _ => 1000 - (intOf i).toNat)
  case atStart => exact ⟨0, Nat.zero_le _, rfl, Below.refl _ _⟩
  case round =>
    obtain ⟨j, hj, rfl, hbb⟩ := hrel
    have HBB := Lib.hid hbb
    clear hbb f0 f1 g0 g1 s0 s1 s2 s3
    by_cases hlt : j < 1000
    · have hjt : j < ts.length := by have := HTL.out; omega
      obtain ⟨_, b0, off, rfl, hc1⟩ := HT5.out.below HBB.out (Nat.le_refl _) j hjt
      obtain ⟨_, b1, off1, hbe, hc2⟩ := HC5.out.below HBB.out (Nat.le_refl _) j hjt
      obtain ⟨rfl, rfl⟩ : w1.heap.size = b1 ∧ 0 = off1 := by simpa using hbe
      rw [Nat.zero_add] at hc2
      clear hbe
      have HMP := Lib.hid (List.getElem_mem hjt)
      generalize ts[j] = p at *
      have HMAYp := Lib.hid (fun W => HMAY.out p HMP.out W)
      obtain ⟨s0, s1, s2, s3⟩ := HS5.out.below HBB.out
      obtain ⟨f0, f1⟩ := HF5.out.below HBB.out
      go_wp2_with (go_at_call 18; (with_reducible refine (HMAYp.out _).mono ?_); rintro r w6 ⟨rfl, hb⟩; have HB6 := Lib.hid (HBB.out.trans (hb.mono HBB.out.size)); clear hb)
      go_roundw
      case rel => exact ⟨j + 1, by omega, by go_num, HB6.out⟩
      case measure => simp [intOf]; omega
    · go_wp2
      go_ret
      exact ⟨rfl, HB5.out.trans (HBB.out.mono HB5.out.size)⟩
theorem bloomMakes_any (H P M : Int) (S : Nat) (hS : S < 4294967296) (a : Option Addr) (cap : Nat) (ss : List ByteArray) (hl : ss.length ≤ cap) (hcm : cap ≤ maxLen) (hnone : a = none → cap = 0) (w : World) (hs : StrsAt w a ss) :
    Calls Try.prog 5 #[.agg #[.int .i64 H, .int .i64 P, .int .i64 M, .int .u32 S], .slice a ss.length cap] w fun e w' => e = .returned (.bool true) ∧ Below w.heap.size w w' := by
  by_cases h : ss.length ≤ 1000
  · exact bloomMakes_short H P M S hS a cap ss hl hcm hnone w hs h
  · exact bloomMakes_long H P M S hS a cap ss hl hcm hnone w hs h
end Go.Proofs.Ytplegohebfajlaa
