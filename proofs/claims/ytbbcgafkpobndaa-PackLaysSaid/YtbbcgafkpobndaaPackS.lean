/- Walk of the law PackShort. -/
import Derived.Test.YtbbcgafkpobndaaRdW5
import Derived.Test.YtbbcgafkpobndaaRdMath3
set_option linter.unusedVariables false
set_option linter.unusedSimpArgs false
namespace Go.Proofs.Ytbbcgafkpobndaa
open Go.RowKit PackMath

theorem IsWr.below {B p : Nat} {w w' : World} {v : Value} {bs : List UInt8} (h : IsWr B w p v bs) (k : Below w.heap.size w w') : IsWr B w' p v bs := by
  refine ⟨h.base, by rw [k.block p (Array.getElem?_eq_some_iff.1 h.cell).1]; exact h.cell, h.own.1, ?_⟩
  rcases h.own.2 with h2 | ⟨g, cap, cur, hvv, hgb, hh, r⟩
  · exact .inl h2
  · exact .inr ⟨g, cap, cur, hvv, hgb, by rw [k.block g (Array.getElem?_eq_some_iff.1 hh).1]; exact hh, r⟩

theorem bytes_ex (B p : Nat) (w : World) (v : Value) (bs : List UInt8) (h : IsWr B w p v bs) :
    Calls Try.prog 13 #[.pointer (some ⟨p, 0, none⟩)] w fun e w' => ∃ S : ByteArray, S.data.toList = bs ∧ S.size = bs.length ∧ e = .returned (.string S) ∧ w = w' :=
  (bytes_any B p w v bs h).mono fun _ _ ⟨h1, h2⟩ => ⟨⟨bs.toArray⟩, by simp, by show bs.toArray.size = _; simp, h1, h2⟩

theorem rShort_ex0 (p : Nat) (s : ByteArray) (w : World) (x f m g : Nat) (hR : shortR s 0 0 = ((x, f), (m, g))) (h : IsRd TR w p s 0 0) :
    Calls Try.prog 16 #[.pointer (some ⟨p, 0, none⟩)] w fun r w' => r = .returned (.tuple #[.int .u64 x, .int .i64 f]) ∧ Kept w w' p ∧ IsRd TR w' p s m g := by
  have := rShort p s 0 0 w h
  rw [hR] at this
  exact this

theorem bytes_eq {S T : ByteArray} (h : S.data.toList = T.data.toList) : S = T := by
  cases S; cases T; simp only [ByteArray.mk.injEq]; exact Array.toList_inj.1 h

set_option maxHeartbeats 1600000 in
set_option maxRecDepth 100000 in
theorem packShort_any (s : ByteArray) (n : Nat) (hn : n < 18446744073709551616) (hs : s.size ≤ 140737488355328) (w : World) :
    Calls Try.prog 4 #[.string s, .int .u64 n] w fun e w' => e = .returned (.bool true) ∧ Below w.heap.size w w' := by
  have h10 := short_ten hn
  have h1 := short_pos n
  go_enter Try.func4, Try.ntmps4
  go_wp2_with (go_at_call 9; refine (lays_any w).mono ?_; rintro e w1 ⟨rfl, hb1⟩; have HB1 := Lib.hid hb1; clear hb1)
  go_wp2_with (go_at_call 10; refine (new_any w1).mono ?_; rintro e w2 ⟨rfl, hw2⟩; have H0 := Lib.hid (wr_new w1); rw [← hw2] at H0; have HB2 : Hid (Below w1.heap.size w1 w2) := Lib.hid (by rw [hw2]; exact bl_alloc (Below.refl _ _) _); clear hw2)
  go_wp2_with (go_at_call 14; refine (short_at w1.heap.size w1.heap.size _ n rfl hn w2 _ _ H0.out HB2.out.size (by decide)).mono ?_; rintro e w3 ⟨rfl, hh⟩; obtain ⟨v3, hr3, hm3⟩ := hh; rw [List.nil_append] at hr3; have HR3 := Lib.hid hr3; have HB3 := Lib.hid (HB2.out.trans (Moved.below hm3 H0.out HB2.out.size)); clear hr3 hm3)
  go_wp2_with (go_at_call 13; refine (bytes_ex _ _ w3 v3 _ HR3.out).mono ?_; rintro e w3' ⟨S, hS, hSz, rfl, rfl⟩; have HS := Lib.hid hS; have hSz2 : S.size ≤ 10 := (by omega); clear hS)
  have hcat : (S ++ s).size < 281474976710656 := by rw [ByteArray.size_append]; omega
  have hR1 := Lib.hid (shortR_short n hn (S ++ s) s.data.toList (by rw [ByteArray.data_append, Array.toList_append, HS.out]))
  go_wp2_with (go_at_call 15; refine (rd_new w3 _ hcat).mono ?_; rintro e w4 ⟨rfl, hb4, hr4⟩; have HB4 := Lib.hid hb4; have HR4 := Lib.hid hr4; clear hb4 hr4)
  go_wp2_with (go_at_call 16; refine (rShort_ex0 _ _ w4 _ _ _ _ hR1.out HR4.out).mono ?_; rintro e w5 ⟨rfl, hk, _⟩; have HB5 := Lib.hid (HB4.out.trans (hk.below (Nat.le_refl _) HB4.out.size)); clear hk)
  have HR5 := Lib.hid (HR3.out.below HB5.out)
  have hl1 : decide (((short n).length : Int) < 1) = false := by simp; omega
  have hl2 : decide ((10 : Int) < ((short n).length : Int)) = false := by simp; omega
  have hs2 : s.size < 281474976710656 := by omega
  go_wp2_with (go_at_call 12; refine (len_any _ _ w5 v3 _ HR5.out).mono ?_; rintro e w5' ⟨rfl, rfl⟩)
  go_wp2_with (go_at_call 12; refine (len_any _ _ w5 v3 _ HR5.out).mono ?_; rintro e w5' ⟨rfl, rfl⟩)
  go_wp2_with (go_at_call 15; refine (rd_new w5 s hs2).mono ?_; rintro e w6 ⟨rfl, hb6, hr6⟩; have HB6 := Lib.hid hb6; have HR6 := Lib.hid hr6; clear hb6 hr6)
  have HBa := Lib.hid (bl_trans (bl_trans HB1.out HB3.out) HB5.out)
  rcases shortR_back s with ⟨f, hf, hR⟩ | ⟨x, m, hR, hm, hx, hxl⟩
  · have HRR := Lib.hid hR
    clear hR
    go_wp2_with (go_at_call 16; refine (rShort_ex0 _ s w6 _ _ _ _ HRR.out HR6.out).mono ?_; rintro e w7 ⟨rfl, hk, hr⟩; have HR7 := Lib.hid hr; have HB7 := Lib.hid (HB6.out.trans (hk.below (Nat.le_refl _) HB6.out.size)); clear hk hr)
    rcases hf with rfl | rfl
    · go_wp2_with (go_at_call 17; refine (rAt _ s _ _ w7 HR7.out).mono ?_; rintro e w7' ⟨rfl, rfl⟩)
      go_ret
      exact ⟨rfl, bl_trans HBa.out HB7.out⟩
    · go_wp2_with (go_at_call 17; refine (rAt _ s _ _ w7 HR7.out).mono ?_; rintro e w7' ⟨rfl, rfl⟩)
      go_ret
      exact ⟨rfl, bl_trans HBa.out HB7.out⟩
  · have HRR := Lib.hid hR
    have HX := Lib.hid hx
    have hd : decide ((m : Int) ≤ (s.size : Int)) = true := by simpa using hm
    clear hR hx
    go_wp2_with (go_at_call 16; refine (rShort_ex0 _ s w6 _ _ _ _ HRR.out HR6.out).mono ?_; rintro e w7 ⟨rfl, hk, hr⟩; have HR7 := Lib.hid hr; have HB7 := Lib.hid (HB6.out.trans (hk.below (Nat.le_refl _) HB6.out.size)); clear hk hr)
    go_wp2_with (go_at_call 10; refine (new_any w7).mono ?_; rintro e w8 ⟨rfl, hw8⟩; have H8 := Lib.hid (wr_new w7); rw [← hw8] at H8; have HB8 : Hid (Below w7.heap.size w7 w8) := Lib.hid (by rw [hw8]; exact bl_alloc (Below.refl _ _) _); clear hw8)
    go_wp2_with (go_at_call 14; refine (short_at w7.heap.size w7.heap.size _ x rfl hxl w8 _ _ H8.out HB8.out.size (by decide)).mono ?_; rintro e w9 ⟨rfl, hh⟩; obtain ⟨v9, hr9, hm9⟩ := hh; rw [List.nil_append] at hr9; have HR9 := Lib.hid hr9; have HB9 := Lib.hid (HB8.out.trans (Moved.below hm9 H8.out HB8.out.size)); clear hr9 hm9)
    have HRd := Lib.hid (HR7.out.below HB9.out)
    go_wp2_with (go_at_call 17; refine (rAt _ s _ _ w9 HRd.out).mono ?_; rintro e w9' ⟨rfl, rfl⟩)
    go_wp2_with (go_at_call 13; refine (bytes_ex _ _ w9 v9 _ HR9.out).mono ?_; rintro e w9' ⟨T, hT, hTz, rfl, rfl⟩; have hTe : T = s.extract 0 m := (bytes_eq (by rw [hT, HX.out, extract_list]; rfl)); clear hT hTz; subst hTe)
    go_wp2_with (go_at_call 17; refine (rAt _ s _ _ w9 HRd.out).mono ?_; rintro e w9' ⟨rfl, rfl⟩)
    go_ret
    exact ⟨rfl, bl_trans (bl_trans HBa.out HB7.out) HB9.out⟩
end Go.Proofs.Ytbbcgafkpobndaa
