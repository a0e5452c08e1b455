/- Walk of layer 13: the document's second example ('filters'), and the law BloomHashes. -/
import Derived.Test.YtplegohebfajlaaBlW6
import Derived.Deep.RegionHeld3
set_option linter.unusedVariables false
set_option linter.unusedSimpArgs false
namespace Go.Proofs.Ytplegohebfajlaa
open Go.RowKit BlMath Go.Maps

def sA : ByteArray := ⟨#[97]⟩
def sB : ByteArray := ⟨#[98]⟩
def sC : ByteArray := ⟨#[99]⟩
theorem uniq_aab : (uniq [sA, sA, sB]).length = 2 := by decide
theorem uniq_abc : (uniq [sA, sB, sC]).length = 3 := by decide
theorem usual_chk : chkR 3 10 2 = 0 := by decide
theorem fbits_size (H P S : Nat) (l : List ByteArray) : (fbits H P S l).size = roomB (uniq l).length P := by
  unfold fbits
  show (bytesB _ _).toArray.size = _
  rw [List.size_toArray, bytesB_length]
theorem mk_aab : makeR 3 10 2 0 [sA, sA, sB] = (0, (1, fbits 3 10 0 [sA, sA, sB])) := mk_small usual_chk (by rw [uniq_aab]; decide)
theorem mk_abc : makeR 3 10 2 0 [sA, sB, sC] = (0, (2, ⟨#[]⟩)) := mk_large usual_chk (by rw [uniq_abc]; decide)
theorem fb_aab : (fbits 3 10 0 [sA, sA, sB]).size = 3 := by rw [fbits_size, uniq_aab]; decide
theorem bytesB_none (H S n k : Nat) : bytesB (setF H S n []) k = bytesB (fun _ => false) k := bytesB_congr k (fun i => by simp [setF])
theorem mk_none : makeR 3 10 2 0 [] = (0, (1, ⟨#[0]⟩)) := by
  rw [mk_small usual_chk (by decide)]
  have : fbits (3 : Int).toNat (10 : Int).toNat 0 [] = ⟨#[0]⟩ := by
    unfold fbits
    rw [bytesB_none, show roomB (uniq []).length (10 : Int).toNat = 1 from by decide]
    unfold bytesB
    simp [byteB_zero]
  rw [this]
theorem may_none : mayR 3 10 2 0 1 ⟨#[0]⟩ sA = false := by
  rw [may_small, List.all_eq_false]
  have hp : plR 3 10 2 0 (8 * ((ByteArray.mk #[0]).size : Int)) sA = pl 3 0 8 sA := plR_ok (H := 3) (N := 8) usual_chk (by decide) (by decide)
  rw [hp]
  have hl : 0 < (pl 3 0 8 sA).length := by rw [pl_length]; decide
  refine ⟨(pl 3 0 8 sA)[0], List.getElem_mem hl, ?_⟩
  have hy := pl_lt (show 0 < 8 by decide) sA _ (List.getElem_mem hl)
  generalize (pl 3 0 8 sA)[0] = y at *
  unfold bitAt
  rw [show y / 8 = 0 from by omega]
  simp

set_option maxHeartbeats 400000 in
theorem blUsual (w : World) :
    Calls Try.prog 23 #[] w fun e w' => e = .returned (.agg #[.int .i64 3, .int .i64 10, .int .i64 2, .int .u32 0]) ∧ Below w.heap.size w w' := by
  go_enter Try.func23, Try.ntmps23
  go_wp2
  exact bodyPost_ret (v := .agg #[.int .i64 3, .int .i64 10, .int .i64 2, .int .u32 0]) (by simp [results, Try.results23, go_sem]) rfl ⟨rfl, (Below.refl _ _).alloc (Nat.le_refl _) _⟩

theorem strs_lit (w : World) (t : TypeId) (ss : List ByteArray) (hz : ∀ s ∈ ss, s.size ≤ maxLen) (cs : Array Value) (hc : cs = (ss.map Value.string).toArray) :
    StrsAt (w.alloc (.cells cs t)) (some ⟨w.heap.size, 0, none⟩) ss := fun i hi => by
  refine ⟨hz _ (List.getElem_mem hi), w.heap.size, 0, rfl, ?_⟩
  rw [Nat.zero_add, World.cell?_alloc_new, hc]
  simp [hi]
def F1 : ByteArray := fbits 3 10 0 [sA, sA, sB]
theorem mk1 (W : World) (t : TypeId) : Calls Try.prog 16 #[.agg #[.int .i64 3, .int .i64 10, .int .i64 2, .int .u32 0], .slice (some ⟨W.heap.size, 0, none⟩) 3 3] (W.alloc (.cells #[.string sA, .string sA, .string sB] t)) fun e w' =>
    e = .returned (.tuple #[.agg #[.int .i64 1, .string F1], .int .i64 0]) ∧ Below W.heap.size W w' := by
  have h := blMake 3 10 2 0 (by decide) (some ⟨W.heap.size, 0, none⟩) 3 [sA, sA, sB] (by decide) (W.alloc (.cells #[.string sA, .string sA, .string sB] t)) (strs_lit W t _ (by decide) _ rfl)
  rw [mk_aab] at h
  exact h.mono fun e w' ⟨he, hb⟩ => ⟨he, (bl_alloc (Below.refl _ _) _).trans (hb.mono (by simp))⟩
theorem mk2 (W : World) (t : TypeId) : Calls Try.prog 16 #[.agg #[.int .i64 3, .int .i64 10, .int .i64 2, .int .u32 0], .slice (some ⟨W.heap.size, 0, none⟩) 3 3] (W.alloc (.cells #[.string sA, .string sB, .string sC] t)) fun e w' =>
    e = .returned (.tuple #[.agg #[.int .i64 2, .string ⟨#[]⟩], .int .i64 0]) ∧ Below W.heap.size W w' := by
  have h := blMake 3 10 2 0 (by decide) (some ⟨W.heap.size, 0, none⟩) 3 [sA, sB, sC] (by decide) (W.alloc (.cells #[.string sA, .string sB, .string sC] t)) (strs_lit W t _ (by decide) _ rfl)
  rw [mk_abc] at h
  exact h.mono fun e w' ⟨he, hb⟩ => ⟨he, (bl_alloc (Below.refl _ _) _).trans (hb.mono (by simp))⟩
theorem mk3 (W : World) : Calls Try.prog 16 #[.agg #[.int .i64 3, .int .i64 10, .int .i64 2, .int .u32 0], .slice none 0 0] W fun e w' =>
    e = .returned (.tuple #[.agg #[.int .i64 1, .string ⟨#[0]⟩], .int .i64 0]) ∧ Below W.heap.size W w' := by
  have h := blMake 3 10 2 0 (by decide) none 0 [] (by decide) W (fun i hi => absurd hi (by simp))
  rw [mk_none] at h
  exact h
theorem may3 (W : World) : Calls Try.prog 18 #[.agg #[.int .i64 3, .int .i64 10, .int .i64 2, .int .u32 0], .agg #[.int .i64 1, .string ⟨#[0]⟩], .string sA] W fun e w' => e = .returned (.bool false) ∧ Below W.heap.size W w' := by
  have h := blMay 3 10 2 0 (by decide) 1 ⟨#[0]⟩ sA (by decide) (by decide) W
  rw [may_none] at h
  exact h

theorem row_below {W W' : World} {b : Nat} {o : Obj} (h : W.heap[b]? = some o) (hb : Below W.heap.size W W') : W'.heap[b]? = some o := by
  rw [hb.block b (Array.getElem?_eq_some_iff.1 h).1]; exact h
theorem six_below {W W' : World} {a1 a2 b1 b2 c1 c2 d1 d2 e1 e2 f1 f2 : Nat} {u v x y z q : Value} (h : W.cell? ⟨a1, a2, none⟩ = some u ∧ W.cell? ⟨b1, b2, none⟩ = some v ∧ W.cell? ⟨c1, c2, none⟩ = some x ∧ W.cell? ⟨d1, d2, none⟩ = some y ∧ W.cell? ⟨e1, e2, none⟩ = some z ∧ W.cell? ⟨f1, f2, none⟩ = some q)
    (hb : Below W.heap.size W W') : W'.cell? ⟨a1, a2, none⟩ = some u ∧ W'.cell? ⟨b1, b2, none⟩ = some v ∧ W'.cell? ⟨c1, c2, none⟩ = some x ∧ W'.cell? ⟨d1, d2, none⟩ = some y ∧ W'.cell? ⟨e1, e2, none⟩ = some z ∧ W'.cell? ⟨f1, f2, none⟩ = some q :=
  ⟨bl_cell hb h.1, bl_cell hb h.2.1, bl_cell hb h.2.2.1, bl_cell hb h.2.2.2.1, bl_cell hb h.2.2.2.2.1, bl_cell hb h.2.2.2.2.2⟩
set_option maxHeartbeats 1000000 in
set_option maxRecDepth 100000 in
theorem blFilters (w : World) :
    Calls Try.prog 8 #[] w fun e w' => e = .returned (.bool true) ∧ Below w.heap.size w w' := by
  have hA : (⟨#[97]⟩ : ByteArray) = sA := rfl
  have hB : (⟨#[98]⟩ : ByteArray) = sB := rfl
  have hC : (⟨#[99]⟩ : ByteArray) = sC := rfl
  have M1 := Lib.hid mk1
  have M2 := Lib.hid mk2
  have M3 := Lib.hid mk3
  have UU := Lib.hid blUsual
  go_enter Try.func8, Try.ntmps8
  rw [hA, hB, hC]
  clear hA hB hC
  go_wp2_with (go_at_call 23; (with_reducible refine (UU.out w).mono ?_); rintro r w1 ⟨rfl, hb1⟩; have HB1 := Lib.hid hb1; clear hb1)
  go_wp2_with (go_at_call 16; (with_reducible refine (M1.out w1 _).mono ?_); rintro r w2 ⟨rfl, hb⟩; have HB2 := Lib.hid (HB1.out.trans (hb.mono HB1.out.size)); clear hb)
  have R1 := Lib.hid (heap_alloc_new w2 (.cells #[.int .i64 1, .string F1] 36))
  have HX2 := Lib.hid (bl_alloc HB2.out (.cells #[.int .i64 1, .string F1] 36))
  go_wp2_with (go_at_call 23; (with_reducible refine (UU.out _).mono ?_); rintro r w3 ⟨rfl, hb⟩; have HB3 := Lib.hid (HX2.out.trans (hb.mono HX2.out.size)); have R2 := Lib.hid (row_below R1.out hb); clear hb)
  go_wp2_with (go_at_call 16; (with_reducible refine (M2.out w3 _).mono ?_); rintro r w4 ⟨rfl, hb⟩; have HB4 := Lib.hid (HB3.out.trans (hb.mono HB3.out.size)); have R3 := Lib.hid (row_below R2.out hb); clear hb)
  have R4 := Lib.hid (row_below R3.out (bl_alloc (Below.refl _ w4) (.cells #[.int .i64 2, .string ⟨#[]⟩] 36)))
  have Q4 := Lib.hid (heap_alloc_new w4 (.cells #[.int .i64 2, .string ⟨#[]⟩] 36))
  have HX4 := Lib.hid (bl_alloc HB4.out (.cells #[.int .i64 2, .string ⟨#[]⟩] 36))
  go_wp2_with (go_at_call 23; (with_reducible refine (UU.out _).mono ?_); rintro r w5 ⟨rfl, hb⟩; have HB5 := Lib.hid (HX4.out.trans (hb.mono HX4.out.size)); have R5 := Lib.hid (row_below R4.out hb); have Q5 := Lib.hid (row_below Q4.out hb); clear hb)
  go_wp2_with (go_at_call 16; (with_reducible refine (M3.out w5).mono ?_); rintro r w6 ⟨rfl, hb⟩; have HB6 := Lib.hid (HB5.out.trans (hb.mono HB5.out.size)); have R6 := Lib.hid (row_below R5.out hb); have Q6 := Lib.hid (row_below Q5.out hb); clear hb)
  have r7 := row_below R6.out (bl_alloc (Below.refl _ w6) (.cells #[.int .i64 1, .string ⟨#[0]⟩] 36))
  have q7 := row_below Q6.out (bl_alloc (Below.refl _ w6) (.cells #[.int .i64 1, .string ⟨#[0]⟩] 36))
  have p7 := heap_alloc_new w6 (.cells #[.int .i64 1, .string ⟨#[0]⟩] 36)
  have HX6 := Lib.hid (bl_alloc HB6.out (.cells #[.int .i64 1, .string ⟨#[0]⟩] 36))
  generalize w6.alloc (.cells #[.int .i64 1, .string ⟨#[0]⟩] 36) = wx at *
  have S7 := Lib.hid (show wx.cell? ⟨w2.heap.size, 0, none⟩ = some (.int .i64 1) ∧ wx.cell? ⟨w2.heap.size, 1, none⟩ = some (.string F1) ∧ wx.cell? ⟨w4.heap.size, 0, none⟩ = some (.int .i64 2) ∧ wx.cell? ⟨w4.heap.size, 1, none⟩ = some (.string ⟨#[]⟩) ∧
    wx.cell? ⟨w6.heap.size, 0, none⟩ = some (.int .i64 1) ∧ wx.cell? ⟨w6.heap.size, 1, none⟩ = some (.string ⟨#[0]⟩) from
    ⟨by rw [cell_of_row _ _ _ _ _ _ r7]; rfl, by rw [cell_of_row _ _ _ _ _ _ r7]; rfl, by rw [cell_of_row _ _ _ _ _ _ q7]; rfl, by rw [cell_of_row _ _ _ _ _ _ q7]; rfl, by rw [cell_of_row _ _ _ _ _ _ p7]; rfl, by rw [cell_of_row _ _ _ _ _ _ p7]; rfl⟩)
  clear r7 q7 p7
  have hF : ((F1.size : Int) == 3) = true := by rw [show F1.size = 3 from fb_aab]; rfl
  go_wp2
  go_region_held3 (fun w' => w'.cell? ⟨w2.heap.size, 0, none⟩ = some (.int .i64 1) ∧ w'.cell? ⟨w2.heap.size, 1, none⟩ = some (.string F1) ∧ w'.cell? ⟨w4.heap.size, 0, none⟩ = some (.int .i64 2) ∧ w'.cell? ⟨w4.heap.size, 1, none⟩ = some (.string ⟨#[]⟩) ∧
    w'.cell? ⟨w6.heap.size, 0, none⟩ = some (.int .i64 1) ∧ w'.cell? ⟨w6.heap.size, 1, none⟩ = some (.string ⟨#[0]⟩))
    (first | exact S9.out | exact S8.out | exact S7.out)
    (first
      | (go_at_call 23; (with_reducible refine (UU.out _).mono ?_); rintro r w8 ⟨rfl, hb⟩; have hb1 := (Below.drew (Below.refl _ wx)).trans hb; have HB8 := Lib.hid (HX6.out.trans (hb1.mono HX6.out.size)); have S8 := Lib.hid (six_below S7.out hb1); clear hb hb1)
      | (go_at_call 18; (with_reducible refine (may3 _).mono ?_); rintro r w9 ⟨rfl, hb⟩; have HB9 := Lib.hid (HB8.out.trans (hb.mono HB8.out.size)); have S9 := Lib.hid (six_below S8.out hb); clear hb))
  go_wp2
  go_ret
  exact ⟨rfl, HB9.out⟩

set_option maxHeartbeats 400000 in
theorem bloomHashes_any (S : Nat) (hS : S < 4294967296) (p : ByteArray) (hp : p.size ≤ maxLen) (w : World) :
    Calls Try.prog 3 #[.int .u32 S, .string p] w fun e w' => e = .returned (.bool true) ∧ Below w.heap.size w w' := by
  have H1 := Lib.hid (fun W => blHash S hS p hp W)
  have H2 := Lib.hid (fun W => xHash S hS p hp W)
  generalize hashR S p.data.toList = h at *
  have he : ((h : Int) == (h : Int)) = true := by simp
  go_enter Try.func3, Try.ntmps3
  go_wp2_with (go_at_call 8; (with_reducible refine (blFilters w).mono ?_); rintro r w1 ⟨rfl, hb⟩; have HB1 := Lib.hid hb; clear hb)
  go_wp2_with (first
    | (go_at_call 9; (with_reducible refine (H1.out _).mono ?_); rintro r w2 ⟨rfl, hb⟩; have HB2 := Lib.hid (HB1.out.trans (hb.mono HB1.out.size)); clear hb)
    | (go_at_call 10; (with_reducible refine (H2.out _).mono ?_); rintro r w3 ⟨rfl, rfl⟩))
  go_ret
  exact ⟨rfl, HB2.out⟩
end Go.Proofs.Ytplegohebfajlaa
