/- Walks of layer 2: the two readers: place, error, what is left, raw bytes; Walks of layer 2: the two readers: raw bytes; Walks of layer 2: the two readers: numbers of some bytes; Walks of layer 2: the readers' numbers of one, two, four, eight bytes; the short numbers; Walk of the law PackShort; Walks of layer 2: the short numbers of the document's reader; Walks of layer 2: the readers' texts and ends; Walks of layer 2: one call of both readers ('read'), kind by kind; The whole: readers, by what is still to come. -/
import Derived.Test.YtbhfbdcmamodcaaGreatDoorR10
import Derived.Test.YtbhfbdcmamodcaaGreatDoorR01
import Derived.Test.YtbhfbdcmamodcaaGreatDoorR05
import Derived.BigQuiet
import Derived.Laws.DeepStrings4
import Derived.BigRegion
set_option linter.unusedVariables false
set_option linter.unusedSimpArgs false
namespace Go.Proofs.YtbhfbdcmamodcaaGreatDoor
open Go.RowKit PackMath
structure IsRd (T : TypeId) (w : World) (p : Nat) (s : ByteArray) (at_ e : Nat) : Prop where
  cell : w.heap[p]? = some (.cells #[.string s, .int .i64 at_, .int .i64 e] T (0, 0))
  le : at_ ≤ s.size
  small : s.size < 281474976710656
structure Kept (w w' : World) (p : Nat) : Prop where
  os : w'.os = w.os
  tape : w'.tape = w.tape
  output : w'.output = w.output
  size : w.heap.size ≤ w'.heap.size
  block : ∀ k, k < w.heap.size → k ≠ p → w'.heap[k]? = w.heap[k]?
theorem Kept.refl (w : World) (p : Nat) : Kept w w p := ⟨rfl, rfl, rfl, Nat.le_refl _, fun _ _ _ => rfl⟩
theorem Kept.trans {w x y : World} {p : Nat} (h : Kept w x p) (k : Kept x y p) : Kept w y p :=
  ⟨k.os.trans h.os, k.tape.trans h.tape, k.output.trans h.output, Nat.le_trans h.size k.size, fun i hi hp => (k.block i (Nat.lt_of_lt_of_le hi h.size) hp).trans (h.block i hi hp)⟩
theorem Kept.below {B : Nat} {w w' : World} {p : Nat} (h : Kept w w' p) (hB : B ≤ p) (hs : B ≤ w.heap.size) : Below B w w' :=
  ⟨h.os, h.tape, h.output, h.size, fun i hi => h.block i (by omega) (by omega)⟩
theorem Kept.ofBelow {w w' : World} (p : Nat) (h : Below w.heap.size w w') : Kept w w' p := ⟨h.os, h.tape, h.output, h.size, fun i hi _ => h.block i hi⟩
theorem Kept.set (w : World) (p o : Nat) (v : Value) : Kept w (w.setCell ⟨p, o, none⟩ v) p :=
  ⟨rfl, rfl, rfl, by simp [World.setCell], fun k _ hp => heap_setCell_other w _ k v hp⟩
theorem IsRd.at1 {T : TypeId} {w : World} {p : Nat} {s : ByteArray} {a e : Nat} (h : IsRd T w p s a e) (b : Nat) (hb : b ≤ s.size) : IsRd T (w.setCell ⟨p, 1, none⟩ (.int .i64 b)) p s b e :=
  ⟨by rw [heap_setCell_same w p 1 _ _ _ h.cell]; rfl, hb, h.small⟩
theorem IsRd.err {T : TypeId} {w : World} {p : Nat} {s : ByteArray} {a e : Nat} (h : IsRd T w p s a e) (b : Nat) : IsRd T (w.setCell ⟨p, 2, none⟩ (.int .i64 b)) p s a b :=
  ⟨by rw [heap_setCell_same w p 2 _ _ _ h.cell]; rfl, h.le, h.small⟩
theorem IsRd.cells {T : TypeId} {w : World} {p : Nat} {s : ByteArray} {a e : Nat} (h : IsRd T w p s a e) :
    w.cell? ⟨p, 0, none⟩ = some (.string s) ∧ w.cell? ⟨p, 1, none⟩ = some (.int .i64 a) ∧ w.cell? ⟨p, 2, none⟩ = some (.int .i64 e) ∧ w.frozen? ⟨p, 0, none⟩ = false ∧ w.frozen? ⟨p, 1, none⟩ = false ∧ w.frozen? ⟨p, 2, none⟩ = false :=
  ⟨by rw [cell_of_row _ _ _ _ _ _ h.cell]; rfl, by rw [cell_of_row _ _ _ _ _ _ h.cell]; rfl, by rw [cell_of_row _ _ _ _ _ _ h.cell]; rfl, frozen_of_row _ _ _ _ _ h.cell, frozen_of_row _ _ _ _ _ h.cell, frozen_of_row _ _ _ _ _ h.cell⟩
theorem IsRd.keep {T : TypeId} {w w' : World} {p q : Nat} {s : ByteArray} {a e : Nat} (h : IsRd T w p s a e) (k : Kept w w' q) (hpq : p ≠ q) : IsRd T w' p s a e :=
  ⟨by rw [k.block p (Array.getElem?_eq_some_iff.1 h.cell).1 hpq]; exact h.cell, h.le, h.small⟩
abbrev TR : TypeId := 291
section
variable (p : Nat) (s : ByteArray) (a e : Nat) (w : World)
theorem rErr (h : IsRd TR w p s a e) : Calls Tryz.prog 191 #[.pointer (some ⟨p, 0, none⟩)] w fun r w' => r = .returned (.int .i64 e) ∧ w = w' := by
  obtain ⟨c0, c1, c2, f0, f1, f2⟩ := h.cells
  clear h
  go_enter Tryz.func191, Tryz.ntmps191
  go_wp2
  go_ret
  exact ⟨rfl, rfl⟩
theorem rLeft (h : IsRd TR w p s a e) : Calls Tryz.prog 189 #[.pointer (some ⟨p, 0, none⟩)] w fun r w' => r = .returned (.int .i64 ((s.size : Int) - a)) ∧ Kept w w' p ∧ IsRd TR w' p s a e := by
  obtain ⟨c0, c1, c2, f0, f1, f2⟩ := h.cells
  have hsub : IntKind.i64.wrap ((s.size : Int) - a) = (s.size : Int) - a := IntWalk.i64_in _ (by have := h.le; have := h.small; omega)
  have HR := Lib.hid h
  clear h
  go_enter Tryz.func189, Tryz.ntmps189
  go_wp2
  go_quiet (fail)
  go_wp2
  go_ret
  exact ⟨rfl, ⟨rfl, rfl, rfl, Nat.le_refl _, fun _ _ _ => rfl⟩, HR.out.cell, HR.out.le, HR.out.small⟩
theorem rFail (k : Nat) (h : IsRd TR w p s a e) : Calls Tryz.prog 190 #[.pointer (some ⟨p, 0, none⟩), .int .i64 k] w fun r w' => r = .returned (.int .i64 (if e = 0 then k else e : Nat)) ∧ Kept w w' p ∧ IsRd TR w' p s a (if e = 0 then k else e) := by
  obtain ⟨c0, c1, c2, f0, f1, f2⟩ := h.cells
  have HR := Lib.hid h
  clear h
  by_cases he : e = 0
  · subst he
    go_enter Tryz.func190, Tryz.ntmps190
    go_wp2
    go_ret
    exact ⟨rfl, Kept.set _ _ _ _, HR.out.err k⟩
  · have hd : ((e : Int) == 0) = false := by simp; omega
    have HE := Lib.hid he
    clear he
    go_enter Tryz.func190, Tryz.ntmps190
    go_wp2
    go_ret
    exact ⟨rfl, Kept.refl _ _, HR.out⟩
end
theorem rd_new (w : World) (s : ByteArray) (hs : s.size < 281474976710656) :
    Calls Tryz.prog 132 #[.string s] w fun r w' => r = .returned (.pointer (some ⟨w.heap.size, 0, none⟩)) ∧ Below w.heap.size w w' ∧ IsRd TR w' w.heap.size s 0 0 := by
  go_enter Tryz.func132, Tryz.ntmps132
  go_wp2
  go_ret
  exact ⟨rfl, bl_alloc (Below.refl _ _) _, heap_alloc_new _ _, Nat.zero_le _, hs⟩
end Go.Proofs.YtbhfbdcmamodcaaGreatDoor
namespace Go.Proofs.YtbhfbdcmamodcaaGreatDoor
open Go.RowKit PackMath
section
variable (p : Nat) (s : ByteArray) (a e : Nat) (w : World)
theorem rFail_at (j : Int) (k : Nat) (hjk : j = k) (h : IsRd TR w p s a 0) : Calls Tryz.prog 190 #[.pointer (some ⟨p, 0, none⟩), .int .i64 j] w fun r w' => r = .returned (.int .i64 (k : Nat)) ∧ Kept w w' p ∧ IsRd TR w' p s a k := by
  subst hjk
  exact rFail p s a 0 w k h
theorem rRaw (n : Int) (h : IsRd TR w p s a e) (hn0 : -9223372036854775808 ≤ n) (hn1 : n < 9223372036854775808) :
    Calls Tryz.prog 183 #[.pointer (some ⟨p, 0, none⟩), .int .i64 n] w fun r w' => r = .returned (.tuple #[.string (rawR s a e n).1.1, .int .i64 (rawR s a e n).1.2]) ∧ Kept w w' p ∧ IsRd TR w' p s (rawR s a e n).2.1 (rawR s a e n).2.2 := by
  obtain ⟨c0, c1, c2, f0, f1, f2⟩ := h.cells
  have hle := h.le
  have hsm := h.small
  have HR := Lib.hid h
  clear h
  by_cases he : e = 0
  · subst he
    by_cases hn : n < 0
    · have hd : decide (n < 0) = true := by simpa using hn
      have HN := Lib.hid hn
      clear hn
      go_enter Tryz.func183, Tryz.ntmps183
      go_wp2_with (go_at_call 190; refine (rFail_at p s a w _ 1 rfl HR.out).mono ?_; rintro r w1 ⟨rfl, hk⟩; have HK := Lib.hid hk; clear hk)
      go_ret2
      rw [rawR_neg HN.out]
      exact ⟨rfl, HK.out⟩
    · have hd : decide (n < 0) = false := by simpa using hn
      by_cases hg : (s.size : Int) - a < n
      · have hd2 : decide ((s.size : Int) - a < n) = true := by simpa using hg
        have HN := Lib.hid hn; have HG := Lib.hid hg
        clear hn hg
        go_enter Tryz.func183, Tryz.ntmps183
        go_wp2_with (go_at_call 189; refine (rLeft p s a 0 w HR.out).mono ?_; rintro r w1 ⟨rfl, hk⟩; have HK := Lib.hid hk; clear hk)
        go_wp2_with (go_at_call 190; refine (rFail_at p s a w1 _ 2 rfl HK.out.2).mono ?_; rintro r w2 ⟨rfl, hk⟩; have HK2 := Lib.hid hk; clear hk)
        go_ret2
        rw [rawR_short (by have := HN.out; omega) (by have := HG.out; omega)]
        exact ⟨rfl, HK.out.1.trans HK2.out.1, HK2.out.2⟩
      · have hd2 : decide ((s.size : Int) - a < n) = false := by simpa using hg
        obtain ⟨m, rfl⟩ : ∃ m : Nat, n = m := ⟨n.toNat, by omega⟩
        have hb : a + m ≤ s.size := by omega
        have HN := Lib.hid hn; have HG := Lib.hid hg
        clear hn hg
        go_enter Tryz.func183, Tryz.ntmps183
        go_wp2_with (go_at_call 189; refine (rLeft p s a 0 w HR.out).mono ?_; rintro r w1 ⟨rfl, hk⟩; have HK := Lib.hid hk; obtain ⟨d0, d1, d2, g0, g1, g2⟩ := hk.2.cells; clear hk)
        have ha1 : IntKind.i64.wrap ((a : Int) + m) = (a : Int) + m := IntWalk.i64_in _ (by omega)
        have HB := Lib.hid hb
        go_quiet (fail)
        go_wp2
        go_ret2
        rw [rawR_ok HB.out]
        have HS : IsRd TR (w1.drewN nq) p s a 0 := ⟨HK.out.2.cell, HK.out.2.le, HK.out.2.small⟩
        have HK1 : Kept w (w1.drewN nq) p := HK.out.1.trans ⟨rfl, rfl, rfl, Nat.le_refl _, fun _ _ _ => rfl⟩
        exact ⟨rfl, HK1.trans (Kept.set _ _ _ _), HS.at1 (a + m) HB.out⟩
  · have hd : ((e : Int) != 0) = true := by simp; omega
    have HE := Lib.hid he
    clear he
    go_enter Tryz.func183, Tryz.ntmps183
    go_wp2_with (go_at_call 191; refine (rErr p s a e w HR.out).mono ?_; rintro r w1 ⟨rfl, rfl⟩)
    go_ret2
    rw [rawR_err HE.out]
    exact ⟨rfl, Kept.refl _ _, HR.out⟩
end
end Go.Proofs.YtbhfbdcmamodcaaGreatDoor
namespace Go.Proofs.YtbhfbdcmamodcaaGreatDoor
open Go.RowKit PackMath
theorem IsRd.below {T : TypeId} {w w' : World} {p : Nat} {s : ByteArray} {a e : Nat} (h : IsRd T w p s a e) (k : Below w.heap.size w w') : IsRd T w' p s a e :=
  ⟨by rw [k.block p (Array.getElem?_eq_some_iff.1 h.cell).1]; exact h.cell, h.le, h.small⟩
theorem rRaw_at (p : Nat) (s : ByteArray) (a e : Nat) (w : World) (n : Int) (m : Nat) (hnm : n = m) (h : IsRd TR w p s a e) (hn1 : m < 9223372036854775808) :
    Calls Tryz.prog 183 #[.pointer (some ⟨p, 0, none⟩), .int .i64 n] w fun r w' => ∃ t f b g, rawR s a e m = ((t, f), (b, g)) ∧ r = .returned (.tuple #[.string t, .int .i64 (f : Nat)]) ∧ Kept w w' p ∧ IsRd TR w' p s b g := by
  subst hnm
  refine (rRaw p s a e w m h (by omega) (by omega)).mono ?_
  rintro r w1 ⟨rfl, h1, h2⟩
  exact ⟨_, _, _, _, rfl, rfl, h1, h2⟩
set_option maxHeartbeats 800000 in
set_option maxRecDepth 100000 in
theorem rFixed (p : Nat) (s : ByteArray) (a e n : Nat) (w : World) (h : IsRd TR w p s a e) (hn : n ≤ 8) :
    Calls Tryz.prog 188 #[.pointer (some ⟨p, 0, none⟩), .int .i64 n] w fun r w' => r = .returned (.tuple #[.int .u64 (numR s a e n).1.1, .int .i64 (numR s a e n).1.2]) ∧ Kept w w' p ∧ IsRd TR w' p s (numR s a e n).2.1 (numR s a e n).2.2 := by
  have HR := Lib.hid h
  clear h
  have hcv := fun w t => run_bytes_of_string (P := Tryz.prog) w 9 23 5 t Tryz.underlying9 Tryz.underlying23 Tryz.underlying5
  go_enter Tryz.func188, Tryz.ntmps188
  go_wp2_with (go_at_call 183; refine (rRaw_at p s a e w _ n rfl HR.out (by omega)).mono ?_; rintro r w1 ⟨t, f, b, g, hR, rfl, hk⟩; obtain ⟨hN, ht⟩ := numR_raw HR.out.le hR; have HN := Lib.hid hN; have HK := Lib.hid hk; clear hR hN hk)
  generalize grownCap w1 t.size 0 5 = cap
  generalize hwv : (w1.alloc (.cells (bytesRow t cap) 5 ((bytesRow t cap).size, (bytesRow t cap).size + 1))).drew = wv
  have HB := Lib.hid (show Below w1.heap.size w1 wv by rw [← hwv]; exact ((Below.refl _ _).alloc (Nat.le_refl _) _).drew)
  have HC := Lib.hid (show ∀ i (h : i < t.size), wv.cell? ⟨w1.heap.size, i, none⟩ = some (.int .u8 (t[i].toNat : Nat)) from fun i h => by
    rw [← hwv]; show (w1.alloc _).cell? _ = _; rw [World.cell?_alloc_mark, bytesRow_at t _ i h]; rfl)
  clear hwv hcv
  go_loop [8, 20] (fun v i => ∃ k : Nat, k ≤ t.size ∧ i = .int .i64 k ∧ v = .int .u64 (num (t.data.toList.take k))) (fun _ i => t.size - (intOf i).toNat)
  case atStart => exact ⟨0, Nat.zero_le _, rfl, rfl⟩
  case round =>
    obtain ⟨k, hk, rfl, rfl⟩ := hrel
    by_cases hlt : k < t.size
    · have hel := num_take_lt t.data.toList k (by omega)
      have HE := Lib.hid (num_take t k hlt)
      have hcell := HC.out k hlt
      generalize hx : t[k] = x at hcell
      generalize he : num (t.data.toList.take k) = v at hel
      rw [hx, he] at HE
      have hxl := x.toNat_lt
      have hor : bits .or .u64 ((v : Int) * 256) (x.toNat : Int) = (v : Int) * 256 + (x.toNat : Int) := by
        have h := u64_or_nat (v * 256) x.toNat (by omega) (by omega)
        rw [or256 _ _ hxl, Int.natCast_mul, Int.natCast_add, Int.natCast_mul] at h
        exact h
      go_wp2
      go_round
      case rel => exact ⟨k + 1, by omega, by go_num, by rw [HE.out]; first | rfl | (rw [Int.natCast_add, Int.natCast_mul]; rfl)⟩
      case measure => simp [intOf]; omega
    · obtain rfl : k = t.size := by omega
      go_wp2
      go_ret2
      rw [HN.out]
      refine ⟨?_, HK.out.1.trans (Kept.ofBelow p HB.out), HK.out.2.below HB.out⟩
      rw [List.take_of_length_le (by simp)]
      rfl
end Go.Proofs.YtbhfbdcmamodcaaGreatDoor
namespace Go.Proofs.YtbhfbdcmamodcaaGreatDoor
open Go.RowKit PackMath
theorem rFixed_at (p : Nat) (s : ByteArray) (a e : Nat) (j : Int) (n : Nat) (hj : j = n) (w : World) (h : IsRd TR w p s a e) (hn : n ≤ 8) :
    Calls Tryz.prog 188 #[.pointer (some ⟨p, 0, none⟩), .int .i64 j] w fun r w' => ∃ v f b g, numR s a e n = ((v, f), (b, g)) ∧ v < 256 ^ n ∧ r = .returned (.tuple #[.int .u64 (v : Nat), .int .i64 (f : Nat)]) ∧ Kept w w' p ∧ IsRd TR w' p s b g := by
  subst hj
  refine (rFixed p s a e n w h hn).mono ?_
  rintro r w1 ⟨rfl, h1, h2⟩
  exact ⟨_, _, _, _, rfl, numR_lt s a e n, rfl, h1, h2⟩
section
variable (p : Nat) (s : ByteArray) (a e : Nat) (w : World)
theorem rU8 (h : IsRd TR w p s a e) : Calls Tryz.prog 134 #[.pointer (some ⟨p, 0, none⟩)] w fun r w' => r = .returned (.tuple #[.int .u8 (numR s a e 1).1.1, .int .i64 (numR s a e 1).1.2]) ∧ Kept w w' p ∧ IsRd TR w' p s (numR s a e 1).2.1 (numR s a e 1).2.2 := by
  have HR := Lib.hid h; clear h
  go_enter Tryz.func134, Tryz.ntmps134
  go_wp2_with (go_at_call 188; refine (rFixed_at p s a e _ 1 rfl w HR.out (by decide)).mono ?_; rintro r w1 ⟨v, f, b, g, hN, hv, rfl, hk⟩; have HN := Lib.hid hN; have HK := Lib.hid hk; clear hN hk; have hv2 : v < 256 := hv; clear hv)
  go_ret2
  rw [HN.out]
  exact ⟨rfl, HK.out⟩
theorem rU16 (h : IsRd TR w p s a e) : Calls Tryz.prog 185 #[.pointer (some ⟨p, 0, none⟩)] w fun r w' => r = .returned (.tuple #[.int .u16 (numR s a e 2).1.1, .int .i64 (numR s a e 2).1.2]) ∧ Kept w w' p ∧ IsRd TR w' p s (numR s a e 2).2.1 (numR s a e 2).2.2 := by
  have HR := Lib.hid h; clear h
  go_enter Tryz.func185, Tryz.ntmps185
  go_wp2_with (go_at_call 188; refine (rFixed_at p s a e _ 2 rfl w HR.out (by decide)).mono ?_; rintro r w1 ⟨v, f, b, g, hN, hv, rfl, hk⟩; have HN := Lib.hid hN; have HK := Lib.hid hk; clear hN hk; have hv2 : v < 65536 := hv; clear hv)
  go_ret2
  rw [HN.out]
  exact ⟨rfl, HK.out⟩
theorem rU32 (h : IsRd TR w p s a e) : Calls Tryz.prog 133 #[.pointer (some ⟨p, 0, none⟩)] w fun r w' => r = .returned (.tuple #[.int .u32 (numR s a e 4).1.1, .int .i64 (numR s a e 4).1.2]) ∧ Kept w w' p ∧ IsRd TR w' p s (numR s a e 4).2.1 (numR s a e 4).2.2 := by
  have HR := Lib.hid h; clear h
  go_enter Tryz.func133, Tryz.ntmps133
  go_wp2_with (go_at_call 188; refine (rFixed_at p s a e _ 4 rfl w HR.out (by decide)).mono ?_; rintro r w1 ⟨v, f, b, g, hN, hv, rfl, hk⟩; have HN := Lib.hid hN; have HK := Lib.hid hk; clear hN hk; have hv2 : v < 4294967296 := hv; clear hv)
  go_ret2
  rw [HN.out]
  exact ⟨rfl, HK.out⟩
end
end Go.Proofs.YtbhfbdcmamodcaaGreatDoor
namespace Go.Proofs.YtbhfbdcmamodcaaGreatDoor
open Go.RowKit PackMath
theorem IsWr.below {B p : Nat} {w w' : World} {v : Value} {bs : List UInt8} (h : IsWr B w p v bs) (k : Below w.heap.size w w') : IsWr B w' p v bs := by
  refine ⟨h.base, by rw [k.block p (Array.getElem?_eq_some_iff.1 h.cell).1]; exact h.cell, h.own.1, ?_⟩
  rcases h.own.2 with h2 | ⟨g, cap, cur, hvv, hgb, hh, r⟩
  · exact .inl h2
  · exact .inr ⟨g, cap, cur, hvv, hgb, by rw [k.block g (Array.getElem?_eq_some_iff.1 hh).1]; exact hh, r⟩
end Go.Proofs.YtbhfbdcmamodcaaGreatDoor
namespace Go.Proofs.YtbhfbdcmamodcaaGreatDoor
open Go.RowKit PackMath
theorem Kept.drewN (w : World) (p n : Nat) : Kept w (w.drewN n) p := ⟨rfl, rfl, rfl, Nat.le_refl _, fun _ _ _ => rfl⟩
end Go.Proofs.YtbhfbdcmamodcaaGreatDoor
namespace Go.Proofs.YtbhfbdcmamodcaaGreatDoor
open Go.RowKit PackMath
section
variable (p : Nat) (s : ByteArray) (a e : Nat) (w : World)
theorem rEnd (h : IsRd TR w p s a e) : Calls Tryz.prog 135 #[.pointer (some ⟨p, 0, none⟩)] w fun r w' => r = .returned (.int .i64 (endR s a e : Nat)) ∧ Kept w w' p ∧ IsRd TR w' p s a (endR s a e) := by
  have HR := Lib.hid h
  have hle := h.le
  clear h
  by_cases hlt : a < s.size
  · have hd : decide ((0 : Int) < (s.size : Int) - (a : Int)) = true := by simp; omega
    have HE : Hid ((if e = 0 then 3 else e) = endR s a e) := Lib.hid (by unfold endR; by_cases he : e = 0 <;> simp [he, hlt])
    go_enter Tryz.func135, Tryz.ntmps135
    go_wp2_with (go_at_call 189; refine (rLeft p s a e w HR.out).mono ?_; rintro r w1 ⟨rfl, hk⟩; have HK := Lib.hid hk; clear hk)
    go_wp2_with (go_at_call 190; refine (rFail p s a e w1 3 HK.out.2).mono ?_; rintro r w2 ⟨rfl, hk⟩; rw [HE.out] at *; have HK2 := Lib.hid hk; clear hk)
    go_ret
    exact ⟨rfl, HK.out.1.trans HK2.out.1, HK2.out.2⟩
  · have hd : decide ((0 : Int) < (s.size : Int) - (a : Int)) = false := by simp; omega
    have HE : Hid (endR s a e = e) := Lib.hid (by unfold endR; rw [if_neg (by omega)])
    go_enter Tryz.func135, Tryz.ntmps135
    go_wp2_with (go_at_call 189; refine (rLeft p s a e w HR.out).mono ?_; rintro r w1 ⟨rfl, hk⟩; have HK := Lib.hid hk; clear hk)
    go_wp2_with (go_at_call 191; refine (rErr p s a e w1 HK.out.2).mono ?_; rintro r w2 ⟨rfl, rfl⟩)
    go_ret
    rw [HE.out]
    exact ⟨rfl, HK.out.1, HK.out.2⟩
end
end Go.Proofs.YtbhfbdcmamodcaaGreatDoor
namespace Go.Proofs.YtbhfbdcmamodcaaGreatDoor
open Go.RowKit PackMath
theorem IsRd.drewN {T : TypeId} {w : World} {p : Nat} {s : ByteArray} {a e : Nat} (h : IsRd T w p s a e) (n : Nat) : IsRd T (w.drewN n) p s a e := ⟨h.cell, h.le, h.small⟩
section
variable (p : Nat) (s : ByteArray) (a e : Nat) (w : World)
theorem rU8_ex (v f b g : Nat) (hN : numR s a e 1 = ((v, f), (b, g))) (h : IsRd TR w p s a e) : Calls Tryz.prog 134 #[.pointer (some ⟨p, 0, none⟩)] w fun r w' => r = .returned (.tuple #[.int .u8 v, .int .i64 f]) ∧ Kept w w' p ∧ IsRd TR w' p s b g := by
  have := rU8 p s a e w h
  rw [hN] at this
  exact this
theorem rU16_ex (v f b g : Nat) (hN : numR s a e 2 = ((v, f), (b, g))) (h : IsRd TR w p s a e) : Calls Tryz.prog 185 #[.pointer (some ⟨p, 0, none⟩)] w fun r w' => r = .returned (.tuple #[.int .u16 v, .int .i64 f]) ∧ Kept w w' p ∧ IsRd TR w' p s b g := by
  have := rU16 p s a e w h
  rw [hN] at this
  exact this
theorem rU32_ex (v f b g : Nat) (hN : numR s a e 4 = ((v, f), (b, g))) (h : IsRd TR w p s a e) : Calls Tryz.prog 133 #[.pointer (some ⟨p, 0, none⟩)] w fun r w' => r = .returned (.tuple #[.int .u32 v, .int .i64 f]) ∧ Kept w w' p ∧ IsRd TR w' p s b g := by
  have := rU32 p s a e w h
  rw [hN] at this
  exact this
theorem rRaw_ex (n : Int) (hn0 : -9223372036854775808 ≤ n) (hn1 : n < 9223372036854775808) (t : ByteArray) (f b g : Nat) (hN : rawR s a e n = ((t, f), (b, g))) (h : IsRd TR w p s a e) : Calls Tryz.prog 183 #[.pointer (some ⟨p, 0, none⟩), .int .i64 n] w fun r w' => r = .returned (.tuple #[.string t, .int .i64 f]) ∧ Kept w w' p ∧ IsRd TR w' p s b g := by
  have := rRaw p s a e w n h hn0 hn1
  rw [hN] at this
  exact this
end
section
variable (B p q : Nat) (s : ByteArray) (a e : Nat) (w : World) (k n : Nat) (o : ByteArray)
end
end Go.Proofs.YtbhfbdcmamodcaaGreatDoor
namespace Go.Proofs.YtbhfbdcmamodcaaGreatDoor
open Go.RowKit PackMath
def RP (w : World) (p : Nat) (rest : List UInt8) : Prop := ∃ s a, IsRd TR w p s a 0 ∧ a ≤ s.size ∧ s.data.toList.drop a = rest
theorem RP.lt {w : World} {p : Nat} {rest : List UInt8} (h : RP w p rest) : p < w.heap.size := by
  obtain ⟨s, a, h1, _⟩ := h
  exact (Array.getElem?_eq_some_iff.1 h1.cell).1
theorem RP.keep {w x : World} {p q : Nat} {rest : List UInt8} (h : RP w p rest) (k : Kept w x q) (hpq : p ≠ q) : RP x p rest := by
  obtain ⟨s, a, h1, h2⟩ := h
  exact ⟨s, a, h1.keep k hpq, h2⟩
theorem RP.below {w x : World} {p : Nat} {rest : List UInt8} (h : RP w p rest) (hb : Below w.heap.size w x) : RP x p rest := by
  obtain ⟨s, a, h1, h2⟩ := h
  exact ⟨s, a, h1.below hb, h2⟩
theorem RP.upd {F : Foot} {w x : World} {p : Nat} {rest : List UInt8} (h : RP w p rest) (k : Upd F w x) (hp : ¬ F p) : RP x p rest := by
  have hl := h.lt
  obtain ⟨s, a, h1, h2⟩ := h
  exact ⟨s, a, ⟨(k.block p hl hp).trans h1.cell, h1.le, h1.small⟩, h2⟩
theorem Kept.upd {w x : World} {p : Nat} (h : Kept w x p) : Upd (· = p) w x := ⟨h.os, h.tape, h.output, h.size, fun k hk hn => h.block k hk hn⟩
theorem drop_num {s : ByteArray} {a k n : Nat} {rest : List UInt8} (ha : a ≤ s.size) (h : s.data.toList.drop a = be k n ++ rest) (hk : k < 256 ^ n) : numR s a 0 n = ((k, 0), (a + n, 0)) ∧ a + n ≤ s.size ∧ s.data.toList.drop (a + n) = rest := by
  have hl := congrArg List.length h
  rw [List.length_drop, List.length_append, be_length, size_list] at hl
  refine ⟨numR_at (pre := s.data.toList.take a) (post := rest) ?_ (by rw [List.length_take, size_list]; omega) hk, by omega, ?_⟩
  · rw [← h, List.take_append_drop]
  · rw [← List.drop_drop, h, List.drop_left' (be_length k n)]
theorem rp_ext {S T : ByteArray} (h : S.data.toList = T.data.toList) : S = T := by
  cases S; cases T; simp only [ByteArray.mk.injEq]; exact Array.toList_inj.1 h
section
variable {w : World} {p : Nat} {rest : List UInt8}
theorem rpNew (w : World) (s : ByteArray) (hs : s.size < 281474976710656) :
    Calls Tryz.prog 132 #[.string s] w fun r w' => r = .returned (.pointer (some ⟨w.heap.size, 0, none⟩)) ∧ Below w.heap.size w w' ∧ RP w' w.heap.size s.data.toList :=
  (rd_new w s hs).mono fun r w' ⟨h1, h2, h3⟩ => ⟨h1, h2, s, 0, h3, Nat.zero_le _, rfl⟩
theorem rpU8 (k : Nat) (h : RP w p (be k 1 ++ rest)) (hk : k < 256) :
    Calls Tryz.prog 134 #[.pointer (some ⟨p, 0, none⟩)] w fun r w' => r = .returned (.tuple #[.int .u8 k, .int .i64 0]) ∧ Kept w w' p ∧ RP w' p rest := by
  obtain ⟨s, a, h1, h2, h3⟩ := h
  obtain ⟨n1, n2, n3⟩ := drop_num h2 h3 (by simpa using hk)
  exact (rU8_ex (v := k) (f := 0) (b := a + 1) (g := 0) (hN := n1) (h := h1)).mono fun r w' ⟨k1, k2, k3⟩ => ⟨k1, k2, s, a + 1, k3, n2, n3⟩
theorem rpU16 (k : Nat) (h : RP w p (be k 2 ++ rest)) (hk : k < 65536) :
    Calls Tryz.prog 185 #[.pointer (some ⟨p, 0, none⟩)] w fun r w' => r = .returned (.tuple #[.int .u16 k, .int .i64 0]) ∧ Kept w w' p ∧ RP w' p rest := by
  obtain ⟨s, a, h1, h2, h3⟩ := h
  obtain ⟨n1, n2, n3⟩ := drop_num h2 h3 (by simpa using hk)
  exact (rU16_ex (v := k) (f := 0) (b := a + 2) (g := 0) (hN := n1) (h := h1)).mono fun r w' ⟨k1, k2, k3⟩ => ⟨k1, k2, s, a + 2, k3, n2, n3⟩
theorem rpU32 (k : Nat) (h : RP w p (be k 4 ++ rest)) (hk : k < 4294967296) :
    Calls Tryz.prog 133 #[.pointer (some ⟨p, 0, none⟩)] w fun r w' => r = .returned (.tuple #[.int .u32 k, .int .i64 0]) ∧ Kept w w' p ∧ RP w' p rest := by
  obtain ⟨s, a, h1, h2, h3⟩ := h
  obtain ⟨n1, n2, n3⟩ := drop_num h2 h3 (by simpa using hk)
  exact (rU32_ex (v := k) (f := 0) (b := a + 4) (g := 0) (hN := n1) (h := h1)).mono fun r w' ⟨k1, k2, k3⟩ => ⟨k1, k2, s, a + 4, k3, n2, n3⟩
theorem rpRaw (n : Int) (t : List UInt8) (hn : n = (t.length : Nat)) (ht : t.length ≤ 1099511627776) (h : RP w p (t ++ rest)) :
    Calls Tryz.prog 183 #[.pointer (some ⟨p, 0, none⟩), .int .i64 n] w fun r w' => r = .returned (.tuple #[.string ⟨t.toArray⟩, .int .i64 0]) ∧ Kept w w' p ∧ RP w' p rest := by
  obtain ⟨s, a, h1, h2, h3⟩ := h
  subst hn
  have hl := congrArg List.length h3
  rw [List.length_drop, List.length_append, size_list] at hl
  have he : s.extract a (a + t.length) = ⟨t.toArray⟩ := by
    refine rp_ext ?_
    rw [extract_list, h3, Nat.add_sub_cancel_left, List.take_left' rfl]
  have hr : rawR s a 0 (t.length : Nat) = ((⟨t.toArray⟩, 0), (a + t.length, 0)) := by rw [rawR_ok (by omega), he]
  exact (rRaw_ex (n := (t.length : Nat)) (hn0 := by omega) (hn1 := by omega) (t := _) (f := 0) (b := _) (g := 0) (hN := hr) (h := h1)).mono fun r w' ⟨k1, k2, k3⟩ => ⟨k1, k2, s, a + t.length, k3, by omega, by rw [← List.drop_drop, h3, List.drop_left' rfl]⟩
theorem rpEnd (h : RP w p []) : Calls Tryz.prog 135 #[.pointer (some ⟨p, 0, none⟩)] w fun r w' => r = .returned (.int .i64 0) ∧ Kept w w' p := by
  obtain ⟨s, a, h1, h2, h3⟩ := h
  have hl := congrArg List.length h3
  rw [List.length_drop, size_list] at hl
  simp only [List.length_nil] at hl
  have he : endR s a 0 = 0 := by unfold endR; rw [if_neg (by omega)]
  exact (rEnd (h := h1)).mono fun r w' ⟨k1, k2, _⟩ => ⟨by rw [k1, he]; rfl, k2⟩
end
end Go.Proofs.YtbhfbdcmamodcaaGreatDoor
