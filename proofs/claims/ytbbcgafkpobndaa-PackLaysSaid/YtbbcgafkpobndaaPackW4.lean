/- Walks of layer 2: the writer's raw bytes and texts, the nil writer, the document's first example. -/
import Derived.Test.YtbbcgafkpobndaaPackW3
set_option linter.unusedVariables false
set_option linter.unusedSimpArgs false
namespace Go.Proofs.Ytbbcgafkpobndaa
open Go.RowKit PackMath

theorem slice_of_own {B e k n : Nat} {w : World} {v : Value} {xs : List Value} (h : w.ownsRow B e k v n xs) : ∃ a c, v = .slice a n c := by
  rcases h.2 with ⟨rfl, h0⟩ | ⟨g, cap, cur, rfl, _⟩
  · exact ⟨none, 0, by rw [h0]⟩
  · exact ⟨_, cap, rfl⟩

theorem short_nil (x : Int) (w : World) :
    Calls Try.prog 14 #[.pointer none, .int .u64 x] w fun e w' => e = .returned (.tuple #[]) ∧ w = w' := by
  go_enter Try.func14, Try.ntmps14
  go_wp2
  exact bodyPost_ret (results_none rfl _ _ _) rfl ⟨rfl, rfl⟩
theorem raw_nil (s : ByteArray) (w : World) :
    Calls Try.prog 36 #[.pointer none, .string s] w fun e w' => e = .returned (.tuple #[]) ∧ w = w' := by
  go_enter Try.func36, Try.ntmps36
  go_wp2
  go_end0
  exact ⟨rfl, rfl⟩
theorem text_nil (s : ByteArray) (w : World) :
    Calls Try.prog 30 #[.pointer none, .string s] w fun e w' => e = .returned (.tuple #[]) ∧ w = w' := by
  go_enter Try.func30, Try.ntmps30
  go_wp2_with first | (go_at_call 14; refine (short_nil _ _).mono ?_; rintro e w1 ⟨rfl, rfl⟩) | (go_at_call 36; refine (raw_nil _ _).mono ?_; rintro e w1 ⟨rfl, rfl⟩)
  go_end0
  exact ⟨rfl, rfl⟩

theorem raw_any (B p : Nat) (s : ByteArray) (w : World) (v : Value) (bs : List UInt8) (h : IsWr B w p v bs) (hB : B ≤ w.heap.size) (hl : bs.length + s.size ≤ 225000000000000) :
    Calls Try.prog 36 #[.pointer (some ⟨p, 0, none⟩), .string s] w fun e w' => e = .returned (.tuple #[]) ∧ ∃ v', IsWr B w' p v' (bs ++ s.data.toList) ∧ Moved w w' p v v' := by
  obtain ⟨i0, hi, hz0, hz1, hz2⟩ := info_parts infoU8
  have hcell : w.cell? ⟨p, 0, none⟩ = some v := by rw [cell_of_row _ _ _ _ _ _ h.cell]; rfl
  have hfr := frozen_of_row w p 0 _ _ h.cell
  have HR := Lib.hid h; clear h
  go_enter Try.func36, Try.ntmps36
  go_wp2_with (refine wpList_append_string_own _ rfl (.tmp 10) (.tmp 11) 26 9 rfl B 5 i0 (.int .u8 0) Try.underlying26 Try.underlying9 hi hz0 hz1 hz2 rfl v bs.length (bytesOf bs) rfl HR.out.own s rfl hl hB ?_; intro v1 w1 hown hg hat; obtain ⟨ga, gc, rfl⟩ := slice_of_own hown; obtain ⟨hc1, hf1⟩ := wr_midG HR.out (Below.refl _ _) hg)
  go_end0
  have HS := wr_stepG (l := s.data.toList) HR.out (Below.refl _ _) hown hg hat
  exact ⟨rfl, _, HS⟩

theorem short_at (B p : Nat) (x : Int) (k : Nat) (hxk : x = (k : Int)) (hx : k < 18446744073709551616) (w : World) (v : Value) (bs : List UInt8) (h : IsWr B w p v bs) (hB : B ≤ w.heap.size) (hl : bs.length + 10 ≤ 140737488355328) :
    Calls Try.prog 14 #[.pointer (some ⟨p, 0, none⟩), .int .u64 x] w fun e w' => e = .returned (.tuple #[]) ∧ ∃ v', IsWr B w' p v' (bs ++ short k) ∧ Moved w w' p v v' := by
  subst hxk
  exact short_any B p k hx w v bs h hB hl

/-- A text as it is laid. -/
def textOf (s : ByteArray) : List UInt8 := short s.size ++ s.data.toList

theorem text_any (B p : Nat) (s : ByteArray) (hs : s.size < 18446744073709551616) (w : World) (v : Value) (bs : List UInt8) (h : IsWr B w p v bs) (hB : B ≤ w.heap.size) (hl : bs.length + 10 ≤ 70000000000000 ∧ s.size ≤ 140737488355328) :
    Calls Try.prog 30 #[.pointer (some ⟨p, 0, none⟩), .string s] w fun e w' => e = .returned (.tuple #[]) ∧ ∃ v', IsWr B w' p v' (bs ++ textOf s) ∧ Moved w w' p v v' := by
  have HR := Lib.hid h; clear h
  have h10 := short_ten hs
  go_enter Try.func30, Try.ntmps30
  go_wp2_with (go_at_call 14; refine (short_at B p _ s.size (by first | rfl | omega) hs w v bs HR.out hB (by omega)).mono ?_; rintro e w1 ⟨rfl, hh⟩; obtain ⟨v1, hr1, hm1⟩ := hh; have HR1 := Lib.hid hr1; have HM1 := Lib.hid hm1; clear hr1 hm1)
  go_wp2_with (go_at_call 36; refine (raw_any B p s w1 v1 _ HR1.out (Nat.le_trans hB HM1.out.size) (by rw [List.length_append]; omega)).mono ?_; rintro e w2 ⟨rfl, hh⟩; obtain ⟨v2, hr2, hm2⟩ := hh; have HR2 := Lib.hid hr2; have HM2 := Lib.hid hm2; clear hr2 hm2)
  go_end0
  exact ⟨rfl, v2, by unfold textOf; rw [← List.append_assoc]; exact HR2.out, HM1.out.trans HM2.out⟩

theorem short300 : short 300 = [172, 2] := by
  rw [short_great (by decide), short_small (by decide)]; rfl
theorem lays_len : ([] ++ be 258 2 ++ short 300).length = 4 := by rw [short300]; rfl
theorem lays_lit : [] ++ be 258 2 ++ short 300 ++ textOf ⟨#[97, 98]⟩ = [1, 2, 172, 2, 2, 97, 98] := by
  unfold textOf
  rw [short300, show (ByteArray.mk #[97, 98]).size = 2 from rfl, short_small (by decide)]
  decide
/-- The document's first example is so. -/
theorem lays_any (w : World) :
    Calls Try.prog 9 #[] w fun e w' => e = .returned (.bool true) ∧ Below w.heap.size w w' := by
  go_enter Try.func9, Try.ntmps9
  go_wp2_with (go_at_call 10; refine (new_any w).mono ?_; rintro e w1 ⟨rfl, hw1⟩; have H0 := Lib.hid (wr_new w); rw [← hw1] at H0; have HB0 : Hid (Below w.heap.size w w1) := Lib.hid (by rw [hw1]; exact bl_alloc (Below.refl _ _) _); have HN := Lib.hid (show w.heap.size ≤ w1.heap.size by rw [hw1]; simp); clear hw1)
  go_wp2_with (go_at_call 29; refine (u16_any w.heap.size w.heap.size 258 w1 _ [] (by decide) H0.out HN.out (by decide)).mono ?_; rintro e w2 ⟨rfl, hh⟩; obtain ⟨v2, hr2, hm2⟩ := hh; have HR2 := Lib.hid hr2; have HM2 := Lib.hid (Moved.below hm2 H0.out HN.out); clear hr2 hm2)
  go_wp2_with (go_at_call 14; refine (short_at w.heap.size w.heap.size _ 300 rfl (by decide) w2 v2 _ HR2.out (Nat.le_trans HN.out HM2.out.size) (by decide)).mono ?_; rintro e w3 ⟨rfl, hh⟩; obtain ⟨v3, hr3, hm3⟩ := hh; have HR3 := Lib.hid hr3; have HM3 := Lib.hid (HM2.out.trans (Moved.below hm3 HR2.out (Nat.le_trans HN.out HM2.out.size))); clear hr3 hm3)
  go_wp2_with (go_at_call 30; refine (text_any w.heap.size w.heap.size ⟨#[97, 98]⟩ (by decide) w3 v3 _ HR3.out (Nat.le_trans HN.out HM3.out.size) (by rw [lays_len]; decide)).mono ?_; rintro e w4 ⟨rfl, hh⟩; obtain ⟨v4, hr4, hm4⟩ := hh; rw [lays_lit] at hr4; have HR4 := Lib.hid hr4; have HM4 := Lib.hid (HM3.out.trans (Moved.below hm4 HR3.out (Nat.le_trans HN.out HM3.out.size))); clear hr4 hm4)
  go_wp2_with first | (go_at_call 13; refine (bytes_any w.heap.size w.heap.size w4 v4 _ HR4.out).mono ?_; rintro e w5 ⟨rfl, rfl⟩) | (go_at_call 12; refine (len_any w.heap.size w.heap.size w4 v4 _ HR4.out).mono ?_; rintro e w6 ⟨rfl, rfl⟩)
  go_ret
  exact ⟨rfl, HB0.out.trans HM4.out⟩
end Go.Proofs.Ytbbcgafkpobndaa
