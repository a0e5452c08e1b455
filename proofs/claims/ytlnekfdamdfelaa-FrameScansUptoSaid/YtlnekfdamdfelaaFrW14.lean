/- Walk of layer 7: frames one behind the other, scanned. -/
import Derived.Laws.IdiomStrings
import Derived.Test.YtlnekfdamdfelaaFrW13
import Derived.Test.YtlnekfdamdfelaaFrW8
set_option linter.unusedVariables false
set_option linter.unusedSimpArgs false
namespace Go.Proofs.Ytlnekfdamdfelaa
open Go.RowKit PackMath SumMath FrMath

/-- Bytes that lie in a block. -/
def BytesAt (W : World) (p n : Nat) : Prop := ∀ j, j < n → ∃ b : UInt8, W.cell? ⟨p, j, none⟩ = some (.int .u8 (b.toNat : Int))
theorem BytesAt.below {W W' : World} {p n : Nat} (h : BytesAt W p n) (hp : p < W.heap.size) (hb : Below W.heap.size W W') : BytesAt W' p n := fun j hj => by
  obtain ⟨b, e⟩ := h j hj
  exact ⟨b, (hb.cell (p := ⟨p, j, none⟩) hp).trans e⟩
theorem BytesAt.start (w : World) (X : ByteArray) (cap : Nat) (t : TypeId) (lo hi n : Nat) (hn : X.size = n) : BytesAt (w.alloc (.cells (bytesRow X cap) t (lo, hi))) w.heap.size n := fun j hj => by
  rw [← hn] at hj
  exact ⟨X.data[j], by rw [World.cell?_alloc_mark]; exact bytesRow_at X cap j hj⟩
theorem BytesAt.drew {W : World} {p n : Nat} (h : BytesAt W p n) : BytesAt W.drew p n := h
theorem bytes_thaw (w : World) (X : ByteArray) (cap : Nat) (t : TypeId) (q : Nat) (hq : q < X.size) : (w.alloc (.cells (bytesRow X cap) t ((bytesRow X cap).size, (bytesRow X cap).size + 1))).frozen? ⟨w.heap.size, q, none⟩ = false := by
  rw [World.frozen?_alloc_mark]
  have : q < (bytesRow X cap).size := by
    unfold bytesRow
    rw [Array.size_append, Array.size_map]
    have h2 : X.data.size = X.size := rfl
    omega
  simp; omega
theorem xor_byte (x : UInt8) (y : Nat) (hy : y < 256) : ∃ z : UInt8, bits .xor .u8 (x.toNat : Int) (y : Int) = (z.toNat : Int) := by
  refine ⟨UInt8.ofNat (x.toNat ^^^ y), ?_⟩
  have h := Nat.xor_lt_two_pow (n := 8) x.toNat_lt hy
  rw [b8_xor _ _ x.toNat_lt hy]
  simp [UInt8.toNat_ofNat', Nat.mod_eq_of_lt hy]
theorem BytesAt.set {W : World} {p n q : Nat} (h : BytesAt W p n) (hq : q < n) (y : UInt8) : BytesAt (W.setCell ⟨p, q, none⟩ (.int .u8 (y.toNat : Int))) p n := fun j hj => by
  by_cases e : j = q
  · subst e
    obtain ⟨b, hb⟩ := h j hj
    exact ⟨y, World.cell?_setCell_same' _ _ _ (by rw [hb]; rfl)⟩
  · obtain ⟨b, hb⟩ := h j hj
    exact ⟨b, by rw [World.cell?_setCell_other _ _ _ _ (by simp [e])]; exact hb⟩
theorem BytesAt.back {W : World} {p n : Nat} (h : BytesAt W p n) (cap : Nat) : ∃ T : ByteArray, T.size = n ∧ (convert 23 9 (.slice (some ⟨p, 0, none⟩) n cap)).run Try.prog W = .ok (.string T) W := by
  obtain ⟨l, hl, hc⟩ : ∃ l : List UInt8, l.length = n ∧ ∀ j (hj : j < l.length), W.cell? ⟨p, j, none⟩ = some (.int .u8 (l[j].toNat : Int)) := by
    refine ⟨(List.range n).map fun j => if hj : j < n then Classical.choose (h j hj) else 0, by simp, fun j hj => ?_⟩
    have hj' : j < n := by simpa using hj
    rw [List.getElem_map, List.getElem_range]
    simp only [hj', dite_true]
    exact Classical.choose_spec (h j hj')
  subst hl
  refine ⟨⟨l.toArray⟩, by show l.toArray.size = _; simp, run_convert_bytes_back W _ _ 5 ⟨p, 0, none⟩ cap l Try.underlying23 Try.underlying5 Try.underlying9 (fun j hj => ?_)⟩
  have e : (⟨p, 0, none⟩ : Addr).add j = ⟨p, j, none⟩ := by rw [add_form]; simp
  rw [e]
  exact hc j hj

set_option maxRecDepth 100000 in
set_option maxHeartbeats 1000000 in
theorem scans_some (l : List (Int × ByteArray)) (a : Option Addr) (c : Nat) (tail : ByteArray) (at_ : Nat) (hat : at_ < 65536) (hl : l.length ≤ maxLen) (ht : tail.size ≤ 1048576) (w : World) (h : FrsAt w a l) (hz : 0 < (laidR l).1.length + tail.size) :
    Calls Try.prog 8 #[.slice a l.length c, .string tail, .int .u16 (at_ : Nat)] w fun e w' => e = .returned (.bool true) ∧ Below w.heap.size w w' := by
  have HA := Lib.hid h
  have HLI := Lib.hid (laid_inv l)
  have kc := fun (W : World) (X : ByteArray) => run_bytes_of_string (P := Try.prog) W 9 23 5 X Try.underlying9 Try.underlying23 Try.underlying5
  have HZ := Lib.hid hz
  clear h hz
  go_enter Try.func8, Try.ntmps8
  go_wp2_with (first
    | (go_at_call 9; refine (fFrames _).mono ?_; rintro e w1 ⟨rfl, hb⟩; have HB1 := Lib.hid hb; clear hb)
    | (go_at_call 16; refine (laid_ex _ l a c hl (HA.out.below HB1.out)).mono ?_; rintro r w2 ⟨S, wa, wc, rfl, hS, hf, hwc, hnil, hsm, hb⟩; have HB2 := Lib.hid (bl_trans HB1.out hb); have hSl : S.size ≤ 2097161 := (by rw [← size_list, hS]; exact HLI.out.2.2); have hov : ¬ (9223372036854775807 < S.size + tail.size) := (by omega); have hSz := HZ.out; rw [← hS, size_list] at hSz; clear hS hf hwc hnil hsm hb; have hq := Nat.mod_lt at_ (show S.size + tail.size > 0 by omega); have hXs : (S ++ tail).size = S.size + tail.size := ByteArray.size_append; have f0 := bytes_thaw w2 (S ++ tail) (grownCap w2 (S.size + tail.size) 0 5) 5 (at_ % (S.size + tail.size)) (by omega); obtain ⟨xx, r0⟩ := BytesAt.start w2 (S ++ tail) (grownCap w2 (S.size + tail.size) 0 5) 5 (bytesRow (S ++ tail) (grownCap w2 (S.size + tail.size) 0 5)).size ((bytesRow (S ++ tail) (grownCap w2 (S.size + tail.size) 0 5)).size + 1) _ hXs _ hq; have xlt := xx.toNat_lt; obtain ⟨yy, hv⟩ : ∃ yy : UInt8, bits .xor .u8 (xx.toNat : Int) ((at_ : Int) / 256) = (yy.toNat : Int) := xor_byte xx (at_ / 256) (by omega); have hdp : decide (0 < (S.size : Int) + (tail.size : Int)) = true := (by simp; omega); have hi1 : (at_ : Int) % ((S.size : Int) + tail.size) < (S.size : Int) + tail.size := Int.emod_lt_of_pos _ (by omega); have hi0 : 0 ≤ (at_ : Int) % ((S.size : Int) + tail.size) := Int.emod_nonneg _ (by omega); have hi2 : ¬ ((at_ : Int) % ((S.size : Int) + tail.size) < 0) := (by omega)))
  go_wp2_with (first
    | (go_at_call 20; (with_reducible refine (scannedIs S (by omega) _).mono ?_); rintro r w4 ⟨rfl, hb⟩; have hY4 := BytesAt.below (BytesAt.drew ((BytesAt.start w2 (S ++ tail) _ _ _ _ _ hXs).set hq yy)) (by simp) hb; have HB4 := Lib.hid (bl_trans ((bl_alloc HB2.out (.cells (bytesRow (S ++ tail) (grownCap w2 (S.size + tail.size) 0 5)) 5 ((bytesRow (S ++ tail) (grownCap w2 (S.size + tail.size) 0 5)).size, (bytesRow (S ++ tail) (grownCap w2 (S.size + tail.size) 0 5)).size + 1))).setCell (p := ⟨w2.heap.size, _, none⟩) HB2.out.size _).drew hb); have hp4 : w2.heap.size < w4.heap.size := Nat.lt_of_lt_of_le (by simp) hb.size; clear hb f0 r0)
    | (go_at_call 20; (with_reducible refine (scannedIs (S ++ tail) (by omega) _).mono ?_); rintro r w5 ⟨rfl, hb⟩; obtain ⟨T, hT, hback⟩ := (hY4.below hp4 hb).back (grownCap w2 (S.size + tail.size) 0 5); have HB5 := Lib.hid (bl_trans HB4.out hb); clear hb)
    | (go_at_call 20; (with_reducible refine (scannedIs T (by omega) _).mono ?_); rintro r w6 ⟨rfl, hb⟩; have HB6 := Lib.hid (bl_trans HB5.out hb); clear hb))
  go_ret
  exact ⟨rfl, HB6.out⟩
set_option maxRecDepth 100000 in
set_option maxHeartbeats 1000000 in
theorem scans_none (l : List (Int × ByteArray)) (a : Option Addr) (c : Nat) (tail : ByteArray) (at_ : Nat) (hat : at_ < 65536) (hl : l.length ≤ maxLen) (ht : tail.size ≤ 1048576) (w : World) (h : FrsAt w a l) (hz : (laidR l).1.length + tail.size = 0) :
    Calls Try.prog 8 #[.slice a l.length c, .string tail, .int .u16 (at_ : Nat)] w fun e w' => e = .returned (.bool true) ∧ Below w.heap.size w w' := by
  have HA := Lib.hid h
  have HLI := Lib.hid (laid_inv l)
  have kc := fun (W : World) (X : ByteArray) => run_bytes_of_string (P := Try.prog) W 9 23 5 X Try.underlying9 Try.underlying23 Try.underlying5
  have HZ := Lib.hid hz
  clear h hz
  go_enter Try.func8, Try.ntmps8
  go_wp2_with (first
    | (go_at_call 9; refine (fFrames _).mono ?_; rintro e w1 ⟨rfl, hb⟩; have HB1 := Lib.hid hb; clear hb)
    | (go_at_call 16; refine (laid_ex _ l a c hl (HA.out.below HB1.out)).mono ?_; rintro r w2 ⟨S, wa, wc, rfl, hS, hf, hwc, hnil, hsm, hb⟩; have HB2 := Lib.hid (bl_trans HB1.out hb); have hSl : S.size ≤ 2097161 := (by rw [← size_list, hS]; exact HLI.out.2.2); have hov : ¬ (9223372036854775807 < S.size + tail.size) := (by omega); have hSz := HZ.out; rw [← hS, size_list] at hSz; clear hS hf hwc hnil hsm hb; have hXs : (S ++ tail).size = S.size + tail.size := ByteArray.size_append; have hdp : decide (0 < (S.size : Int) + (tail.size : Int)) = false := (by simp; omega); clear hSz))
  go_wp2_with (first
    | (go_at_call 20; (with_reducible refine (scannedIs S (by omega) _).mono ?_); rintro r w4 ⟨rfl, hb⟩; have hY4 := BytesAt.below (BytesAt.drew (BytesAt.start w2 (S ++ tail) _ _ _ _ _ hXs)) (by simp) hb; have HB4 := Lib.hid (bl_trans (bl_alloc HB2.out (.cells (bytesRow (S ++ tail) (grownCap w2 (S.size + tail.size) 0 5)) 5 ((bytesRow (S ++ tail) (grownCap w2 (S.size + tail.size) 0 5)).size, (bytesRow (S ++ tail) (grownCap w2 (S.size + tail.size) 0 5)).size + 1))).drew hb); have hp4 : w2.heap.size < w4.heap.size := Nat.lt_of_lt_of_le (by simp) hb.size; clear hb)
    | (go_at_call 20; (with_reducible refine (scannedIs (S ++ tail) (by omega) _).mono ?_); rintro r w5 ⟨rfl, hb⟩; obtain ⟨T, hT, hback⟩ := (hY4.below hp4 hb).back (grownCap w2 (S.size + tail.size) 0 5); have HB5 := Lib.hid (bl_trans HB4.out hb); clear hb)
    | (go_at_call 20; (with_reducible refine (scannedIs T (by omega) _).mono ?_); rintro r w6 ⟨rfl, hb⟩; have HB6 := Lib.hid (bl_trans HB5.out hb); clear hb))
  go_ret
  exact ⟨rfl, HB6.out⟩

theorem scansIs (l : List (Int × ByteArray)) (a : Option Addr) (c : Nat) (tail : ByteArray) (at_ : Nat) (hat : at_ < 65536) (hl : l.length ≤ maxLen) (ht : tail.size ≤ 1048576) (w : World) (h : FrsAt w a l) :
    Calls Try.prog 8 #[.slice a l.length c, .string tail, .int .u16 (at_ : Nat)] w fun e w' => e = .returned (.bool true) ∧ Below w.heap.size w w' := by
  by_cases hz : (laidR l).1.length + tail.size = 0
  · exact scans_none l a c tail at_ hat hl ht w h hz
  · exact scans_some l a c tail at_ hat hl ht w h (by omega)
end Go.Proofs.Ytlnekfdamdfelaa
