/- Walks of layer 8: an entry as it is read, by the program. -/
import Derived.Test.YtdjpmgkcgpkkmaaTrDMath
import Derived.Test.YtdjpmgkcgpkkmaaTrPt
import Derived.Test.YtdjpmgkcgpkkmaaRdW8
import Derived.Deep.Cut
set_option linter.unusedVariables false
set_option linter.unusedSimpArgs false
namespace Go.Proofs.Ytdjpmgkcgpkkmaa
open Go.RowKit PackMath TrMath

/-- A box of one's own for an entry, nothing in it yet. -/
def EBox (w : World) (b : Nat) : Prop := w.heap[b]? = some (.cells #[.string ⟨#[]⟩, .int .u32 0] 39 (0, 0))
theorem EBox.kept {w w' : World} {b p : Nat} (h : EBox w b) (k : Kept w w' p) (hp : b ≠ p) : EBox w' b := by
  unfold EBox at *
  rw [k.block b (Array.getElem?_eq_some_iff.1 h).1 hp]; exact h
theorem EBox.cells {w : World} {b : Nat} (h : EBox w b) : w.cell? ⟨b, 0, none⟩ = some (.string ⟨#[]⟩) ∧ w.cell? ⟨b, 1, none⟩ = some (.int .u32 0) ∧ w.frozen? ⟨b, 0, none⟩ = false ∧ w.frozen? ⟨b, 1, none⟩ = false :=
  ⟨by rw [cell_of_row _ _ _ _ _ _ h]; rfl, by rw [cell_of_row _ _ _ _ _ _ h]; rfl, frozen_of_row _ _ _ _ _ h, frozen_of_row _ _ _ _ _ h⟩
theorem EBox.done {w0 w : World} {b p : Nat} (P : ByteArray) (X : Int) (h : EBox w b) (k : Kept w0 w p) (hb : w0.heap.size ≤ b) :
    ((w.setCell ⟨b, 0, none⟩ (.string P)).setCell ⟨b, 1, none⟩ (.int .u32 X)).cell? ⟨b, 0, none⟩ = some (.string P) ∧
    ((w.setCell ⟨b, 0, none⟩ (.string P)).setCell ⟨b, 1, none⟩ (.int .u32 X)).cell? ⟨b, 1, none⟩ = some (.int .u32 X) ∧
    Kept w0 ((w.setCell ⟨b, 0, none⟩ (.string P)).setCell ⟨b, 1, none⟩ (.int .u32 X)) p := by
  have h1 := heap_setCell_same w b 0 _ _ (.string P) h
  have h2 := heap_setCell_same _ b 1 _ _ (.int .u32 X) h1
  refine ⟨by rw [cell_of_row _ _ _ _ _ _ h2]; rfl, by rw [cell_of_row _ _ _ _ _ _ h2]; rfl, k.os, k.tape, k.output, by simp [World.setCell]; exact k.size, fun i hi hp => ?_⟩
  rw [heap_setCell_other _ _ _ _ (by show i ≠ b; omega), heap_setCell_other _ _ _ _ (by show i ≠ b; omega)]
  exact k.block i hi hp
theorem IsRd.box2 {T : TypeId} {w : World} {p b : Nat} {s : ByteArray} {a e : Nat} {u v : Value} (h : IsRd T w p s a e) (hb : p ≠ b) : IsRd T ((w.setCell ⟨b, 0, none⟩ u).setCell ⟨b, 1, none⟩ v) p s a e :=
  (h.keep (Kept.set w b 0 u) hb).keep (Kept.set _ b 1 v) hb
theorem Kept.drewN' {w0 w : World} {p : Nat} (k : Kept w0 w p) (n : Nat) : Kept w0 (w.drewN n) p := ⟨k.os, k.tape, k.output, k.size, k.block⟩
theorem IsRd.drewN' {T : TypeId} {w : World} {p : Nat} {s : ByteArray} {a e : Nat} (h : IsRd T w p s a e) (n : Nat) : IsRd T (w.drewN n) p s a e := ⟨h.cell, h.le, h.small⟩
theorem rd_le {s : ByteArray} {a e n f a1 e1 k f1 a2 e2 : Nat} (h : a ≤ s.size) (hN : numR s a e 1 = ((n, f), (a1, e1))) (hK : numR s a1 e1 1 = ((k, f1), (a2, e2))) : a2 ≤ s.size := by
  have st : ∀ {a e n v f b g : Nat}, a ≤ s.size → numR s a e n = ((v, f), (b, g)) → b ≤ s.size := by
    intro a e n v f b g h hN
    unfold numR at hN
    split at hN
    · cases hN; exact h
    · split at hN
      · cases hN; exact h
      · cases hN; omega
  exact st (st h hN) hK
def EntSaid (s : ByteArray) (first : Bool) (last : ByteArray) (a e p : Nat) (w : World) (r : Ending) (w' : World) : Prop :=
  ∃ (P : ByteArray) (X : Nat), r = .returned (.tuple #[.agg #[.string P, .int .u32 X], .int .i64 ((entR s first last a e).1 : Nat)]) ∧ Kept w w' p ∧ (∀ R, entR s first last a e = (0, R) → R.1 = (P, X) ∧ IsRd TR w' p s R.2.1 R.2.2)
theorem ent_bad {s last P : ByteArray} {first : Bool} {a e p X E : Nat} {w w' : World} (h : (entR s first last a e).1 = E) (hE : E ≠ 0) (k : Kept w w' p) : EntSaid s first last a e p w (.returned (.tuple #[.agg #[.string P, .int .u32 X], .int .i64 E])) w' := by
  subst h
  exact ⟨P, X, rfl, k, fun R hR => absurd (by rw [hR]) hE⟩
theorem ent_good {s last P : ByteArray} {first : Bool} {a e p X b g : Nat} {w w' : World} (h : entR s first last a e = (0, ((P, X), (b, g)))) (k : Kept w w' p) (hr : IsRd TR w' p s b g) : EntSaid s first last a e p w (.returned (.tuple #[.agg #[.string P, .int .u32 X], .int .i64 0])) w' := by
  refine ⟨P, X, by rw [h]; rfl, k, fun R hR => ?_⟩
  rw [h] at hR
  cases hR
  exact ⟨rfl, hr⟩
theorem leq_no {P last : ByteArray} (h : ltB last P = true) : Op.bytesLess P.toList last.toList = false ∧ (P.toList == last.toList) = false := ⟨by rw [bless]; exact ltB_asym h, str_eq (fun e => ltB_ne h e.symm)⟩
theorem leq_yes {P last : ByteArray} (h : ltB last P = false) : Op.bytesLess P.toList last.toList = true ∨ (Op.bytesLess P.toList last.toList = false ∧ (P.toList == last.toList) = true) := by
  rw [bless]
  by_cases k : ltB P last = true
  · exact .inl k
  · have k' : ltB P last = false := by simpa using k
    exact .inr ⟨k', by rw [ltB_tri k' h]; simp⟩

set_option maxHeartbeats 2000000 in
set_option maxRecDepth 100000 in
theorem tEntry_1 (p : Nat) (s last : ByteArray) (first : Bool) (a e : Nat) (w : World) (hl : last.size ≤ 255) (h : IsRd TR w p s a e) (n f a1 e1 : Nat) (hN : numR s a e 1 = ((n, f), (a1, e1))) (c : f = 0 ∧ last.size < n) :
    Calls Try.prog 56 #[.pointer (some ⟨p, 0, none⟩), .bool first, .string last] w (EntSaid s first last a e p w) := by
  have hn : n < 256 := by have := numR_lt s a e 1; rw [hN] at this; exact this
  have hpw := (Array.getElem?_eq_some_iff.1 h.cell).1
  have HD0 := Lib.hid (h.below (bl_alloc (Below.refl _ w) (.cells #[.string ⟨#[]⟩, .int .u32 0] 39)))
  have HK0 := Lib.hid (Kept.ofBelow p (bl_alloc (Below.refl _ w) (.cells #[.string ⟨#[]⟩, .int .u32 0] 39)))
  have HX0 := Lib.hid (show EBox (w.alloc (.cells #[.string ⟨#[]⟩, .int .u32 0] 39)) w.heap.size from heap_alloc_new _ _)
  have hpb : w.heap.size ≠ p := by omega
  have HN := Lib.hid hN
  have HC := Lib.hid (ent_1 (first := first) hN c)
  obtain ⟨c1, c2⟩ := c
  have hf : ((f : Int) == 0) = true := by simp; omega
  have hd1 : decide ((last.size : Int) < (n : Int)) = true := by simp; omega
  have hd2 : decide (last.size < n) = true := by simpa using c2
  clear hN h c1 c2
  go_enter Try.func56, Try.ntmps56
  go_wp2_with fail
  refine (rU8_ex p s a e _ n f a1 e1 HN.out HD0.out).mono ?_
  rintro r w1 ⟨rfl, hk, hr⟩
  have HK1 := Lib.hid (HK0.out.trans hk)
  have HX1 := Lib.hid (HX0.out.kept hk hpb)
  obtain ⟨b0, b1, q0, q1⟩ := EBox.cells HX1.out
  clear hk hr
  go_wp2
  obtain ⟨z0, z1, hkd⟩ := EBox.done ⟨#[]⟩ 0 HX1.out HK1.out (Nat.le_refl _)
  refine bodyPost_ret (v := .tuple #[.agg #[.string ⟨#[]⟩, .int .u32 0], .int .i64 3]) (by simp [results, Try.results56, go_sem, z0, z1]) rfl ?_
  exact ent_bad (P := ⟨#[]⟩) (X := 0) (E := 3) HC.out (by decide) hkd

set_option maxHeartbeats 2000000 in
set_option maxRecDepth 100000 in
theorem tEntry_2 (p : Nat) (s last : ByteArray) (first : Bool) (a e : Nat) (w : World) (hl : last.size ≤ 255) (h : IsRd TR w p s a e) (n f a1 e1 : Nat) (hN : numR s a e 1 = ((n, f), (a1, e1))) (c : ¬ (f = 0 ∧ last.size < n)) (k f1 a2 e2 : Nat) (hK : numR s a1 e1 1 = ((k, f1), (a2, e2))) (t : ByteArray) (g a3 e3 : Nat) (hR : rawR s a2 e2 k = ((t, g), (a3, e3))) (hg : g ≠ 0) :
    Calls Try.prog 56 #[.pointer (some ⟨p, 0, none⟩), .bool first, .string last] w (EntSaid s first last a e p w) := by
  have hn : n < 256 := by have := numR_lt s a e 1; rw [hN] at this; exact this
  have hpw := (Array.getElem?_eq_some_iff.1 h.cell).1
  have HD0 := Lib.hid (h.below (bl_alloc (Below.refl _ w) (.cells #[.string ⟨#[]⟩, .int .u32 0] 39)))
  have HK0 := Lib.hid (Kept.ofBelow p (bl_alloc (Below.refl _ w) (.cells #[.string ⟨#[]⟩, .int .u32 0] 39)))
  have HX0 := Lib.hid (show EBox (w.alloc (.cells #[.string ⟨#[]⟩, .int .u32 0] 39)) w.heap.size from heap_alloc_new _ _)
  have hpb : w.heap.size ≠ p := by omega
  have HN := Lib.hid hN
  have hk8 : k < 256 := by have := numR_lt s a1 e1 1; rw [hK] at this; exact this
  have HKK := Lib.hid hK; have HR := Lib.hid hR
  have HC := Lib.hid (ent_2 (first := first) hN c hK hR hg)
  have hgd : ((g : Int) != 0) = true := by simpa using hg
  have hcase : ((f : Int) == 0) = false ∨ (((f : Int) == 0) = true ∧ (decide ((last.size : Int) < (n : Int)) = false ∧ decide (last.size < n) = false)) := by
    by_cases hf : f = 0
    · have : ¬ last.size < n := fun h2 => c ⟨hf, h2⟩
      exact .inr ⟨by simp; omega, by simp; omega, by simpa using this⟩
    · exact .inl (by simp; omega)
  have HCS := Lib.hid hcase
  have HG := Lib.hid hg
  clear hN h hK hR c hg hcase
  rcases HCS.out with hf | ⟨hf, hd1, hd2⟩
  all_goals
    go_enter Try.func56, Try.ntmps56
    go_wp2_with fail
    refine (rU8_ex p s a e _ n f a1 e1 HN.out HD0.out).mono ?_
    rintro r w1 ⟨rfl, hk, hr⟩
    have HK1 := Lib.hid (HK0.out.trans hk)
    have HX1 := Lib.hid (HX0.out.kept hk hpb)
    have HD1 := Lib.hid hr
    clear hk hr
    go_wp2_with fail
    refine (rU8_ex p s a1 e1 _ k f1 a2 e2 HKK.out HD1.out).mono ?_
    rintro r w2 ⟨rfl, hk, hr⟩
    have HK2 := Lib.hid (HK1.out.trans hk)
    have HX2 := Lib.hid (HX1.out.kept hk hpb)
    have HD2 := Lib.hid hr
    clear hk hr
    go_wp2_with fail
    refine (rRaw_ex p s a2 e2 w2 (k : Int) (by omega) (by omega) t g a3 e3 HR.out HD2.out).mono ?_
    rintro r w3 ⟨rfl, hk, hr⟩
    have HK3 := Lib.hid (HK2.out.trans hk)
    have HX3 := Lib.hid (HX2.out.kept hk hpb)
    obtain ⟨b0, b1, q0, q1⟩ := EBox.cells HX3.out
    clear hk hr
    go_wp2
    obtain ⟨z0, z1, hkd⟩ := EBox.done ⟨#[]⟩ 0 HX3.out HK3.out (Nat.le_refl _)
    refine bodyPost_ret (v := .tuple #[.agg #[.string ⟨#[]⟩, .int .u32 0], .int .i64 ((g : Nat) : Int)]) (by simp [results, Try.results56, go_sem, z0, z1]) rfl ?_
    exact ent_bad (P := ⟨#[]⟩) (X := 0) HC.out HG.out hkd

set_option maxHeartbeats 2000000 in
set_option maxRecDepth 100000 in
theorem tEntry_3a (p : Nat) (s last : ByteArray) (first : Bool) (a e : Nat) (w : World) (hl : last.size ≤ 255) (h : IsRd TR w p s a e) (n f a1 e1 : Nat) (hN : numR s a e 1 = ((n, f), (a1, e1))) (c : ¬ (f = 0 ∧ last.size < n)) (k f1 a2 e2 : Nat) (hK : numR s a1 e1 1 = ((k, f1), (a2, e2))) (t : ByteArray) (g a3 e3 : Nat) (hR : rawR s a2 e2 k = ((t, g), (a3, e3))) (hg : g = 0) (hb : 255 < (last.extract 0 n ++ t).size) :
    Calls Try.prog 56 #[.pointer (some ⟨p, 0, none⟩), .bool first, .string last] w (EntSaid s first last a e p w) := by
  have hn : n < 256 := by have := numR_lt s a e 1; rw [hN] at this; exact this
  have hpw := (Array.getElem?_eq_some_iff.1 h.cell).1
  have HD0 := Lib.hid (h.below (bl_alloc (Below.refl _ w) (.cells #[.string ⟨#[]⟩, .int .u32 0] 39)))
  have HK0 := Lib.hid (Kept.ofBelow p (bl_alloc (Below.refl _ w) (.cells #[.string ⟨#[]⟩, .int .u32 0] 39)))
  have HX0 := Lib.hid (show EBox (w.alloc (.cells #[.string ⟨#[]⟩, .int .u32 0] 39)) w.heap.size from heap_alloc_new _ _)
  have hpb : w.heap.size ≠ p := by omega
  have HN := Lib.hid hN
  have hk8 : k < 256 := by have := numR_lt s a1 e1 1; rw [hK] at this; exact this
  have HKK := Lib.hid hK; have HR := Lib.hid hR
  have hf0 := stick hN hK hR hg
  have hnl : n ≤ last.size := by by_cases h2 : last.size < n; exact absurd ⟨hf0, h2⟩ c; omega
  have hf : ((f : Int) == 0) = true := by simp; omega
  have hd1 : decide ((last.size : Int) < (n : Int)) = false := by simp; omega
  have hd2 : decide (last.size < n) = false := by simp; omega
  have hgd : ((g : Int) != 0) = false := by simp; omega
  have htz : t.size ≤ 300 := by
    have := (numR_raw (n := k) (rd_le h.le hN hK) hR).2
    omega
  have hsum : ¬ (9223372036854775807 < (last.extract 0 n).size + t.size) := by have : (last.extract 0 n).size ≤ last.size := by rw [ByteArray.size_extract]; omega
                                                                               omega
  have hez : (last.extract 0 n).size = n := by rw [ByteArray.size_extract]; omega
  have hsum2 : ¬ (9223372036854775807 < n + t.size) := by omega
  have HP := Lib.hid (show last.extract 0 n ++ t = last.extract 0 n ++ t from rfl)
  obtain ⟨P, hP⟩ : ∃ P, last.extract 0 n ++ t = P := ⟨_, rfl⟩
  have hPz : P.size ≤ 1000 := by rw [← hP]; simp only [ByteArray.size_append]; omega
  have HC := Lib.hid (ent_3 (first := first) hN c hK hR hg (.inl hb))
  rw [hP] at hb
  have hb1 : decide (255 < (P.size : Int)) = true := by simp; omega
  clear hb
  have HRP := Lib.hid hP
  clear hN h hK hR c hg hf0 hP
  go_enter Try.func56, Try.ntmps56
  go_wp2_with fail
  refine (rU8_ex p s a e _ n f a1 e1 HN.out HD0.out).mono ?_
  rintro r w1 ⟨rfl, hk, hr⟩
  have HK1 := Lib.hid (HK0.out.trans hk)
  have HX1 := Lib.hid (HX0.out.kept hk hpb)
  have HD1 := Lib.hid hr
  clear hk hr
  go_wp2_with fail
  refine (rU8_ex p s a1 e1 _ k f1 a2 e2 HKK.out HD1.out).mono ?_
  rintro r w2 ⟨rfl, hk, hr⟩
  have HK2 := Lib.hid (HK1.out.trans hk)
  have HX2 := Lib.hid (HX1.out.kept hk hpb)
  have HD2 := Lib.hid hr
  clear hk hr
  go_wp2_with fail
  refine (rRaw_ex p s a2 e2 w2 (k : Int) (by omega) (by omega) t g a3 e3 HR.out HD2.out).mono ?_
  rintro r w3 ⟨rfl, hk, hr⟩
  have HK3 := Lib.hid (HK2.out.trans hk)
  have HX3 := Lib.hid (HX2.out.kept hk hpb)
  have HD3 := Lib.hid hr
  obtain ⟨b0, b1, q0, q1⟩ := EBox.cells HX3.out
  clear hk hr
  go_upto_region 9 with (fail)
  rw [HRP.out]
  go_wp2
  obtain ⟨z0, z1, hkd⟩ := EBox.done ⟨#[]⟩ 0 HX3.out HK3.out (Nat.le_refl _)
  refine bodyPost_ret (v := .tuple #[.agg #[.string ⟨#[]⟩, .int .u32 0], .int .i64 3]) (by simp [results, Try.results56, go_sem, z0, z1]) rfl ?_
  exact ent_bad (P := ⟨#[]⟩) (X := 0) (E := 3) HC.out (by decide) hkd

set_option maxHeartbeats 2000000 in
set_option maxRecDepth 100000 in
theorem tEntry_3b (p : Nat) (s last : ByteArray) (first : Bool) (a e : Nat) (w : World) (hl : last.size ≤ 255) (h : IsRd TR w p s a e) (n f a1 e1 : Nat) (hN : numR s a e 1 = ((n, f), (a1, e1))) (c : ¬ (f = 0 ∧ last.size < n)) (k f1 a2 e2 : Nat) (hK : numR s a1 e1 1 = ((k, f1), (a2, e2))) (t : ByteArray) (g a3 e3 : Nat) (hR : rawR s a2 e2 k = ((t, g), (a3, e3))) (hg : g = 0) (hb0 : ¬ 255 < (last.extract 0 n ++ t).size) (hb : alkB last (last.extract 0 n ++ t) ≠ n) :
    Calls Try.prog 56 #[.pointer (some ⟨p, 0, none⟩), .bool first, .string last] w (EntSaid s first last a e p w) := by
  have hn : n < 256 := by have := numR_lt s a e 1; rw [hN] at this; exact this
  have hpw := (Array.getElem?_eq_some_iff.1 h.cell).1
  have HD0 := Lib.hid (h.below (bl_alloc (Below.refl _ w) (.cells #[.string ⟨#[]⟩, .int .u32 0] 39)))
  have HK0 := Lib.hid (Kept.ofBelow p (bl_alloc (Below.refl _ w) (.cells #[.string ⟨#[]⟩, .int .u32 0] 39)))
  have HX0 := Lib.hid (show EBox (w.alloc (.cells #[.string ⟨#[]⟩, .int .u32 0] 39)) w.heap.size from heap_alloc_new _ _)
  have hpb : w.heap.size ≠ p := by omega
  have HN := Lib.hid hN
  have hk8 : k < 256 := by have := numR_lt s a1 e1 1; rw [hK] at this; exact this
  have HKK := Lib.hid hK; have HR := Lib.hid hR
  have hf0 := stick hN hK hR hg
  have hnl : n ≤ last.size := by by_cases h2 : last.size < n; exact absurd ⟨hf0, h2⟩ c; omega
  have hf : ((f : Int) == 0) = true := by simp; omega
  have hd1 : decide ((last.size : Int) < (n : Int)) = false := by simp; omega
  have hd2 : decide (last.size < n) = false := by simp; omega
  have hgd : ((g : Int) != 0) = false := by simp; omega
  have htz : t.size ≤ 300 := by
    have := (numR_raw (n := k) (rd_le h.le hN hK) hR).2
    omega
  have hsum : ¬ (9223372036854775807 < (last.extract 0 n).size + t.size) := by have : (last.extract 0 n).size ≤ last.size := by rw [ByteArray.size_extract]; omega
                                                                               omega
  have hez : (last.extract 0 n).size = n := by rw [ByteArray.size_extract]; omega
  have hsum2 : ¬ (9223372036854775807 < n + t.size) := by omega
  have HP := Lib.hid (show last.extract 0 n ++ t = last.extract 0 n ++ t from rfl)
  obtain ⟨P, hP⟩ : ∃ P, last.extract 0 n ++ t = P := ⟨_, rfl⟩
  have hPz : P.size ≤ 1000 := by rw [← hP]; simp only [ByteArray.size_append]; omega
  have HC := Lib.hid (ent_3 (first := first) hN c hK hR hg (.inr (.inl hb)))
  rw [hP] at hb hb0
  have hb1 : decide (255 < (P.size : Int)) = false := by simp; omega
  have HAL := Lib.hid (fun W => tAlike last P (by unfold maxLen; omega) (by unfold maxLen; omega) W)
  obtain ⟨m, hm⟩ : ∃ m, alkB last P = m := ⟨_, rfl⟩
  rw [hm] at HAL hb
  have hb2 : ((m : Int) != (n : Int)) = true := by simp; omega
  have hb3 : (m != n) = true := by simpa using hb
  have hb4 : ((m : Int) == (n : Int)) = false := by rw [beq_eq_false_iff_ne]; omega
  have HRP := Lib.hid hP
  clear hN h hK hR c hg hf0 hP hb0 hb hm
  go_enter Try.func56, Try.ntmps56
  go_wp2_with fail
  refine (rU8_ex p s a e _ n f a1 e1 HN.out HD0.out).mono ?_
  rintro r w1 ⟨rfl, hk, hr⟩
  have HK1 := Lib.hid (HK0.out.trans hk)
  have HX1 := Lib.hid (HX0.out.kept hk hpb)
  have HD1 := Lib.hid hr
  clear hk hr
  go_wp2_with fail
  refine (rU8_ex p s a1 e1 _ k f1 a2 e2 HKK.out HD1.out).mono ?_
  rintro r w2 ⟨rfl, hk, hr⟩
  have HK2 := Lib.hid (HK1.out.trans hk)
  have HX2 := Lib.hid (HX1.out.kept hk hpb)
  have HD2 := Lib.hid hr
  clear hk hr
  go_wp2_with fail
  refine (rRaw_ex p s a2 e2 w2 (k : Int) (by omega) (by omega) t g a3 e3 HR.out HD2.out).mono ?_
  rintro r w3 ⟨rfl, hk, hr⟩
  have HK3 := Lib.hid (HK2.out.trans hk)
  have HX3 := Lib.hid (HX2.out.kept hk hpb)
  have HD3 := Lib.hid hr
  obtain ⟨b0, b1, q0, q1⟩ := EBox.cells HX3.out
  clear hk hr
  go_upto_region 9 with (fail)
  rw [HRP.out]
  go_wp2_with fail
  refine (HAL.out _).mono ?_
  rintro r w4 ⟨rfl, nd, rfl⟩
  obtain ⟨b0, b1, q0, q1⟩ := EBox.cells (show EBox (w3.drewN nd) w.heap.size from HX3.out)
  go_wp2
  obtain ⟨z0, z1, hkd⟩ := EBox.done ⟨#[]⟩ 0 (show EBox (w3.drewN nd) w.heap.size from HX3.out) (HK3.out.drewN' nd) (Nat.le_refl _)
  refine bodyPost_ret (v := .tuple #[.agg #[.string ⟨#[]⟩, .int .u32 0], .int .i64 3]) (by simp [results, Try.results56, go_sem, z0, z1]) rfl ?_
  exact ent_bad (P := ⟨#[]⟩) (X := 0) (E := 3) HC.out (by decide) hkd

set_option maxHeartbeats 2000000 in
set_option maxRecDepth 100000 in
theorem tEntry_3c (p : Nat) (s last : ByteArray) (first : Bool) (a e : Nat) (w : World) (hl : last.size ≤ 255) (h : IsRd TR w p s a e) (n f a1 e1 : Nat) (hN : numR s a e 1 = ((n, f), (a1, e1))) (c : ¬ (f = 0 ∧ last.size < n)) (k f1 a2 e2 : Nat) (hK : numR s a1 e1 1 = ((k, f1), (a2, e2))) (t : ByteArray) (g a3 e3 : Nat) (hR : rawR s a2 e2 k = ((t, g), (a3, e3))) (hg : g = 0) (hb0 : ¬ 255 < (last.extract 0 n ++ t).size) (hb : alkB last (last.extract 0 n ++ t) = n) (hfi : first = false) (hlt : ltB last (last.extract 0 n ++ t) = false) :
    Calls Try.prog 56 #[.pointer (some ⟨p, 0, none⟩), .bool first, .string last] w (EntSaid s first last a e p w) := by
  have hn : n < 256 := by have := numR_lt s a e 1; rw [hN] at this; exact this
  have hpw := (Array.getElem?_eq_some_iff.1 h.cell).1
  have HD0 := Lib.hid (h.below (bl_alloc (Below.refl _ w) (.cells #[.string ⟨#[]⟩, .int .u32 0] 39)))
  have HK0 := Lib.hid (Kept.ofBelow p (bl_alloc (Below.refl _ w) (.cells #[.string ⟨#[]⟩, .int .u32 0] 39)))
  have HX0 := Lib.hid (show EBox (w.alloc (.cells #[.string ⟨#[]⟩, .int .u32 0] 39)) w.heap.size from heap_alloc_new _ _)
  have hpb : w.heap.size ≠ p := by omega
  have HN := Lib.hid hN
  have hk8 : k < 256 := by have := numR_lt s a1 e1 1; rw [hK] at this; exact this
  have HKK := Lib.hid hK; have HR := Lib.hid hR
  have hf0 := stick hN hK hR hg
  have hnl : n ≤ last.size := by by_cases h2 : last.size < n; exact absurd ⟨hf0, h2⟩ c; omega
  have hf : ((f : Int) == 0) = true := by simp; omega
  have hd1 : decide ((last.size : Int) < (n : Int)) = false := by simp; omega
  have hd2 : decide (last.size < n) = false := by simp; omega
  have hgd : ((g : Int) != 0) = false := by simp; omega
  have htz : t.size ≤ 300 := by
    have := (numR_raw (n := k) (rd_le h.le hN hK) hR).2
    omega
  have hsum : ¬ (9223372036854775807 < (last.extract 0 n).size + t.size) := by have : (last.extract 0 n).size ≤ last.size := by rw [ByteArray.size_extract]; omega
                                                                               omega
  have hez : (last.extract 0 n).size = n := by rw [ByteArray.size_extract]; omega
  have hsum2 : ¬ (9223372036854775807 < n + t.size) := by omega
  have HP := Lib.hid (show last.extract 0 n ++ t = last.extract 0 n ++ t from rfl)
  obtain ⟨P, hP⟩ : ∃ P, last.extract 0 n ++ t = P := ⟨_, rfl⟩
  have hPz : P.size ≤ 1000 := by rw [← hP]; simp only [ByteArray.size_append]; omega
  have HC := Lib.hid (ent_3 (first := first) hN c hK hR hg (.inr (.inr ⟨hfi, hlt⟩)))
  rw [hP] at hb hb0 hlt
  have hb1 : decide (255 < (P.size : Int)) = false := by simp; omega
  have HAL := Lib.hid (fun W => tAlike last P (by unfold maxLen; omega) (by unfold maxLen; omega) W)
  obtain ⟨m, hm⟩ : ∃ m, alkB last P = m := ⟨_, rfl⟩
  rw [hm] at HAL hb
  have hb2 : ((m : Int) != (n : Int)) = false := by simp; omega
  have hb3 : (m != n) = false := by simp; omega
  have hb4 : ((m : Int) == (n : Int)) = true := by simp; omega
  have hfi' : (!first) = true := by rw [hfi]; rfl
  have HLY := Lib.hid (leq_yes hlt)
  subst hfi
  clear hlt
  have HRP := Lib.hid hP
  clear hN h hK hR c hg hf0 hP hb0 hb hm
  rcases HLY.out with hq1 | ⟨hq1, hq2⟩
  all_goals
    go_enter Try.func56, Try.ntmps56
    go_wp2_with fail
    refine (rU8_ex p s a e _ n f a1 e1 HN.out HD0.out).mono ?_
    rintro r w1 ⟨rfl, hk, hr⟩
    have HK1 := Lib.hid (HK0.out.trans hk)
    have HX1 := Lib.hid (HX0.out.kept hk hpb)
    have HD1 := Lib.hid hr
    clear hk hr
    go_wp2_with fail
    refine (rU8_ex p s a1 e1 _ k f1 a2 e2 HKK.out HD1.out).mono ?_
    rintro r w2 ⟨rfl, hk, hr⟩
    have HK2 := Lib.hid (HK1.out.trans hk)
    have HX2 := Lib.hid (HX1.out.kept hk hpb)
    have HD2 := Lib.hid hr
    clear hk hr
    go_wp2_with fail
    refine (rRaw_ex p s a2 e2 w2 (k : Int) (by omega) (by omega) t g a3 e3 HR.out HD2.out).mono ?_
    rintro r w3 ⟨rfl, hk, hr⟩
    have HK3 := Lib.hid (HK2.out.trans hk)
    have HX3 := Lib.hid (HX2.out.kept hk hpb)
    have HD3 := Lib.hid hr
    obtain ⟨b0, b1, q0, q1⟩ := EBox.cells HX3.out
    clear hk hr
    go_upto_region 9 with (fail)
    rw [HRP.out]
    go_wp2_with fail
    refine (HAL.out _).mono ?_
    rintro r w4 ⟨rfl, nd, rfl⟩
    obtain ⟨b0, b1, q0, q1⟩ := EBox.cells (show EBox (w3.drewN nd) w.heap.size from HX3.out)
    go_wp2
    obtain ⟨z0, z1, hkd⟩ := EBox.done ⟨#[]⟩ 0 (show EBox (w3.drewN nd) w.heap.size from HX3.out) (HK3.out.drewN' nd) (Nat.le_refl _)
    refine bodyPost_ret (v := .tuple #[.agg #[.string ⟨#[]⟩, .int .u32 0], .int .i64 3]) (by simp [results, Try.results56, go_sem, z0, z1]) rfl ?_
    exact ent_bad (P := ⟨#[]⟩) (X := 0) (E := 3) HC.out (by decide) hkd

set_option maxHeartbeats 2000000 in
set_option maxRecDepth 100000 in
theorem tEntry_4t (p : Nat) (s last : ByteArray) (first : Bool) (a e : Nat) (w : World) (hl : last.size ≤ 255) (h : IsRd TR w p s a e) (n f a1 e1 : Nat) (hN : numR s a e 1 = ((n, f), (a1, e1))) (c : ¬ (f = 0 ∧ last.size < n)) (k f1 a2 e2 : Nat) (hK : numR s a1 e1 1 = ((k, f1), (a2, e2))) (t : ByteArray) (g a3 e3 : Nat) (hR : rawR s a2 e2 k = ((t, g), (a3, e3))) (hg : g = 0) (hb0 : ¬ 255 < (last.extract 0 n ++ t).size) (hb : alkB last (last.extract 0 n ++ t) = n) (hfi : first = true) (x hx a4 e4 : Nat) (hB : numR s a3 e3 4 = ((x, hx), (a4, e4))) (hh : hx ≠ 0) :
    Calls Try.prog 56 #[.pointer (some ⟨p, 0, none⟩), .bool first, .string last] w (EntSaid s first last a e p w) := by
  have hn : n < 256 := by have := numR_lt s a e 1; rw [hN] at this; exact this
  have hpw := (Array.getElem?_eq_some_iff.1 h.cell).1
  have HD0 := Lib.hid (h.below (bl_alloc (Below.refl _ w) (.cells #[.string ⟨#[]⟩, .int .u32 0] 39)))
  have HK0 := Lib.hid (Kept.ofBelow p (bl_alloc (Below.refl _ w) (.cells #[.string ⟨#[]⟩, .int .u32 0] 39)))
  have HX0 := Lib.hid (show EBox (w.alloc (.cells #[.string ⟨#[]⟩, .int .u32 0] 39)) w.heap.size from heap_alloc_new _ _)
  have hpb : w.heap.size ≠ p := by omega
  have HN := Lib.hid hN
  have hk8 : k < 256 := by have := numR_lt s a1 e1 1; rw [hK] at this; exact this
  have HKK := Lib.hid hK; have HR := Lib.hid hR
  have hf0 := stick hN hK hR hg
  have hnl : n ≤ last.size := by by_cases h2 : last.size < n; exact absurd ⟨hf0, h2⟩ c; omega
  have hf : ((f : Int) == 0) = true := by simp; omega
  have hd1 : decide ((last.size : Int) < (n : Int)) = false := by simp; omega
  have hd2 : decide (last.size < n) = false := by simp; omega
  have hgd : ((g : Int) != 0) = false := by simp; omega
  have htz : t.size ≤ 300 := by
    have := (numR_raw (n := k) (rd_le h.le hN hK) hR).2
    omega
  have hsum : ¬ (9223372036854775807 < (last.extract 0 n).size + t.size) := by have : (last.extract 0 n).size ≤ last.size := by rw [ByteArray.size_extract]; omega
                                                                               omega
  have hez : (last.extract 0 n).size = n := by rw [ByteArray.size_extract]; omega
  have hsum2 : ¬ (9223372036854775807 < n + t.size) := by omega
  have hnb : ¬ (255 < (last.extract 0 n ++ t).size ∨ alkB last (last.extract 0 n ++ t) ≠ n ∨ (first = false ∧ ltB last (last.extract 0 n ++ t) = false)) := by
    rintro (h1 | h1 | ⟨h1, h2⟩)
    · exact hb0 h1
    · exact h1 hb
    · rw [hfi] at h1; exact absurd h1 (by decide)
  have hx32 : x < 4294967296 := by have := numR_lt s a3 e3 4; rw [hB] at this; exact this
  have HB := Lib.hid hB
  have HC := Lib.hid (ent_4 (first := first) hN c hK hR hg hnb hB hh)
  have HP := Lib.hid (show last.extract 0 n ++ t = last.extract 0 n ++ t from rfl)
  obtain ⟨P, hP⟩ : ∃ P, last.extract 0 n ++ t = P := ⟨_, rfl⟩
  have hPz : P.size ≤ 1000 := by rw [← hP]; simp only [ByteArray.size_append]; omega
  rw [hP] at hb hb0
  have hb1 : decide (255 < (P.size : Int)) = false := by simp; omega
  have HAL := Lib.hid (fun W => tAlike last P (by unfold maxLen; omega) (by unfold maxLen; omega) W)
  obtain ⟨m, hm⟩ : ∃ m, alkB last P = m := ⟨_, rfl⟩
  rw [hm] at HAL hb
  have hb2 : ((m : Int) != (n : Int)) = false := by simp; omega
  have hb3 : (m != n) = false := by simp; omega
  have hb4 : ((m : Int) == (n : Int)) = true := by simp; omega
  subst hfi
  have hh1 : ((hx : Int) == 0) = false := by rw [beq_eq_false_iff_ne]; omega
  have HH := Lib.hid hh
  clear hh
  have HRP := Lib.hid hP
  clear hN h hK hR c hg hf0 hP hb0 hb hm hB hnb
  go_enter Try.func56, Try.ntmps56
  go_wp2_with fail
  refine (rU8_ex p s a e _ n f a1 e1 HN.out HD0.out).mono ?_
  rintro r w1 ⟨rfl, hk, hr⟩
  have HK1 := Lib.hid (HK0.out.trans hk)
  have HX1 := Lib.hid (HX0.out.kept hk hpb)
  have HD1 := Lib.hid hr
  clear hk hr
  go_wp2_with fail
  refine (rU8_ex p s a1 e1 _ k f1 a2 e2 HKK.out HD1.out).mono ?_
  rintro r w2 ⟨rfl, hk, hr⟩
  have HK2 := Lib.hid (HK1.out.trans hk)
  have HX2 := Lib.hid (HX1.out.kept hk hpb)
  have HD2 := Lib.hid hr
  clear hk hr
  go_wp2_with fail
  refine (rRaw_ex p s a2 e2 w2 (k : Int) (by omega) (by omega) t g a3 e3 HR.out HD2.out).mono ?_
  rintro r w3 ⟨rfl, hk, hr⟩
  have HK3 := Lib.hid (HK2.out.trans hk)
  have HX3 := Lib.hid (HX2.out.kept hk hpb)
  have HD3 := Lib.hid hr
  obtain ⟨b0, b1, q0, q1⟩ := EBox.cells HX3.out
  clear hk hr
  go_upto_region 9 with (fail)
  rw [HRP.out]
  go_wp2_with fail
  refine (HAL.out _).mono ?_
  rintro r w4 ⟨rfl, nd, rfl⟩
  have HD4 := Lib.hid (HD3.out.drewN' nd)
  have HK4 := Lib.hid (HK3.out.drewN' nd)
  have HX4 := Lib.hid (show EBox (w3.drewN nd) w.heap.size from HX3.out)
  clear b0 b1 q0 q1
  generalize w3.drewN nd = w4 at *
  go_wp2_with fail
  refine (rU32_ex p s a3 e3 w4 x hx a4 e4 HB.out HD4.out).mono ?_
  rintro r w5 ⟨rfl, hk, hr⟩
  have HK5 := Lib.hid (HK4.out.trans hk)
  have HX5 := Lib.hid (HX4.out.kept hk hpb)
  have HD5 := Lib.hid hr
  obtain ⟨b0, b1, q0, q1⟩ := EBox.cells HX5.out
  clear hk hr
  go_wp2
  obtain ⟨z0, z1, hkd⟩ := EBox.done P ((x : Nat) : Int) HX5.out HK5.out (Nat.le_refl _)
  refine bodyPost_ret (v := .tuple #[.agg #[.string P, .int .u32 ((x : Nat) : Int)], .int .i64 ((hx : Nat) : Int)]) (by simp [results, Try.results56, go_sem, z0, z1]) rfl ?_
  exact ent_bad HC.out HH.out hkd

set_option maxHeartbeats 2000000 in
set_option maxRecDepth 100000 in
theorem tEntry_5t (p : Nat) (s last : ByteArray) (first : Bool) (a e : Nat) (w : World) (hl : last.size ≤ 255) (h : IsRd TR w p s a e) (n f a1 e1 : Nat) (hN : numR s a e 1 = ((n, f), (a1, e1))) (c : ¬ (f = 0 ∧ last.size < n)) (k f1 a2 e2 : Nat) (hK : numR s a1 e1 1 = ((k, f1), (a2, e2))) (t : ByteArray) (g a3 e3 : Nat) (hR : rawR s a2 e2 k = ((t, g), (a3, e3))) (hg : g = 0) (hb0 : ¬ 255 < (last.extract 0 n ++ t).size) (hb : alkB last (last.extract 0 n ++ t) = n) (hfi : first = true) (x hx a4 e4 : Nat) (hB : numR s a3 e3 4 = ((x, hx), (a4, e4))) (hh : hx = 0) (hx0 : x = 0) :
    Calls Try.prog 56 #[.pointer (some ⟨p, 0, none⟩), .bool first, .string last] w (EntSaid s first last a e p w) := by
  have hn : n < 256 := by have := numR_lt s a e 1; rw [hN] at this; exact this
  have hpw := (Array.getElem?_eq_some_iff.1 h.cell).1
  have HD0 := Lib.hid (h.below (bl_alloc (Below.refl _ w) (.cells #[.string ⟨#[]⟩, .int .u32 0] 39)))
  have HK0 := Lib.hid (Kept.ofBelow p (bl_alloc (Below.refl _ w) (.cells #[.string ⟨#[]⟩, .int .u32 0] 39)))
  have HX0 := Lib.hid (show EBox (w.alloc (.cells #[.string ⟨#[]⟩, .int .u32 0] 39)) w.heap.size from heap_alloc_new _ _)
  have hpb : w.heap.size ≠ p := by omega
  have HN := Lib.hid hN
  have hk8 : k < 256 := by have := numR_lt s a1 e1 1; rw [hK] at this; exact this
  have HKK := Lib.hid hK; have HR := Lib.hid hR
  have hf0 := stick hN hK hR hg
  have hnl : n ≤ last.size := by by_cases h2 : last.size < n; exact absurd ⟨hf0, h2⟩ c; omega
  have hf : ((f : Int) == 0) = true := by simp; omega
  have hd1 : decide ((last.size : Int) < (n : Int)) = false := by simp; omega
  have hd2 : decide (last.size < n) = false := by simp; omega
  have hgd : ((g : Int) != 0) = false := by simp; omega
  have htz : t.size ≤ 300 := by
    have := (numR_raw (n := k) (rd_le h.le hN hK) hR).2
    omega
  have hsum : ¬ (9223372036854775807 < (last.extract 0 n).size + t.size) := by have : (last.extract 0 n).size ≤ last.size := by rw [ByteArray.size_extract]; omega
                                                                               omega
  have hez : (last.extract 0 n).size = n := by rw [ByteArray.size_extract]; omega
  have hsum2 : ¬ (9223372036854775807 < n + t.size) := by omega
  have hnb : ¬ (255 < (last.extract 0 n ++ t).size ∨ alkB last (last.extract 0 n ++ t) ≠ n ∨ (first = false ∧ ltB last (last.extract 0 n ++ t) = false)) := by
    rintro (h1 | h1 | ⟨h1, h2⟩)
    · exact hb0 h1
    · exact h1 hb
    · rw [hfi] at h1; exact absurd h1 (by decide)
  have hx32 : x < 4294967296 := by have := numR_lt s a3 e3 4; rw [hB] at this; exact this
  have HB := Lib.hid hB
  have HC := Lib.hid (ent_5 (first := first) hN c hK hR hg hnb hB hh hx0)
  have HP := Lib.hid (show last.extract 0 n ++ t = last.extract 0 n ++ t from rfl)
  obtain ⟨P, hP⟩ : ∃ P, last.extract 0 n ++ t = P := ⟨_, rfl⟩
  have hPz : P.size ≤ 1000 := by rw [← hP]; simp only [ByteArray.size_append]; omega
  rw [hP] at hb hb0
  have hb1 : decide (255 < (P.size : Int)) = false := by simp; omega
  have HAL := Lib.hid (fun W => tAlike last P (by unfold maxLen; omega) (by unfold maxLen; omega) W)
  obtain ⟨m, hm⟩ : ∃ m, alkB last P = m := ⟨_, rfl⟩
  rw [hm] at HAL hb
  have hb2 : ((m : Int) != (n : Int)) = false := by simp; omega
  have hb3 : (m != n) = false := by simp; omega
  have hb4 : ((m : Int) == (n : Int)) = true := by simp; omega
  subst hfi
  have hh1 : ((hx : Int) == 0) = true := by simp; omega
  have hh2 : ((x : Int) == 0) = true := by simp; omega
  subst hx0
  clear hh
  have HRP := Lib.hid hP
  clear hN h hK hR c hg hf0 hP hb0 hb hm hB hnb
  go_enter Try.func56, Try.ntmps56
  go_wp2_with fail
  refine (rU8_ex p s a e _ n f a1 e1 HN.out HD0.out).mono ?_
  rintro r w1 ⟨rfl, hk, hr⟩
  have HK1 := Lib.hid (HK0.out.trans hk)
  have HX1 := Lib.hid (HX0.out.kept hk hpb)
  have HD1 := Lib.hid hr
  clear hk hr
  go_wp2_with fail
  refine (rU8_ex p s a1 e1 _ k f1 a2 e2 HKK.out HD1.out).mono ?_
  rintro r w2 ⟨rfl, hk, hr⟩
  have HK2 := Lib.hid (HK1.out.trans hk)
  have HX2 := Lib.hid (HX1.out.kept hk hpb)
  have HD2 := Lib.hid hr
  clear hk hr
  go_wp2_with fail
  refine (rRaw_ex p s a2 e2 w2 (k : Int) (by omega) (by omega) t g a3 e3 HR.out HD2.out).mono ?_
  rintro r w3 ⟨rfl, hk, hr⟩
  have HK3 := Lib.hid (HK2.out.trans hk)
  have HX3 := Lib.hid (HX2.out.kept hk hpb)
  have HD3 := Lib.hid hr
  obtain ⟨b0, b1, q0, q1⟩ := EBox.cells HX3.out
  clear hk hr
  go_upto_region 9 with (fail)
  rw [HRP.out]
  go_wp2_with fail
  refine (HAL.out _).mono ?_
  rintro r w4 ⟨rfl, nd, rfl⟩
  have HD4 := Lib.hid (HD3.out.drewN' nd)
  have HK4 := Lib.hid (HK3.out.drewN' nd)
  have HX4 := Lib.hid (show EBox (w3.drewN nd) w.heap.size from HX3.out)
  clear b0 b1 q0 q1
  generalize w3.drewN nd = w4 at *
  go_wp2_with fail
  refine (rU32_ex p s a3 e3 w4 0 hx a4 e4 HB.out HD4.out).mono ?_
  rintro r w5 ⟨rfl, hk, hr⟩
  have HK5 := Lib.hid (HK4.out.trans hk)
  have HX5 := Lib.hid (HX4.out.kept hk hpb)
  have HD5 := Lib.hid hr
  obtain ⟨b0, b1, q0, q1⟩ := EBox.cells HX5.out
  clear hk hr
  go_wp2
  obtain ⟨z0, z1, hkd⟩ := EBox.done P 0 HX5.out HK5.out (Nat.le_refl _)
  refine bodyPost_ret (v := .tuple #[.agg #[.string P, .int .u32 0], .int .i64 3]) (by simp [results, Try.results56, go_sem, z0, z1]) rfl ?_
  exact ent_bad (X := 0) (E := 3) HC.out (by decide) hkd

set_option maxHeartbeats 2000000 in
set_option maxRecDepth 100000 in
theorem tEntry_6t (p : Nat) (s last : ByteArray) (first : Bool) (a e : Nat) (w : World) (hl : last.size ≤ 255) (h : IsRd TR w p s a e) (n f a1 e1 : Nat) (hN : numR s a e 1 = ((n, f), (a1, e1))) (c : ¬ (f = 0 ∧ last.size < n)) (k f1 a2 e2 : Nat) (hK : numR s a1 e1 1 = ((k, f1), (a2, e2))) (t : ByteArray) (g a3 e3 : Nat) (hR : rawR s a2 e2 k = ((t, g), (a3, e3))) (hg : g = 0) (hb0 : ¬ 255 < (last.extract 0 n ++ t).size) (hb : alkB last (last.extract 0 n ++ t) = n) (hfi : first = true) (x hx a4 e4 : Nat) (hB : numR s a3 e3 4 = ((x, hx), (a4, e4))) (hh : hx = 0) (hx0 : x ≠ 0) :
    Calls Try.prog 56 #[.pointer (some ⟨p, 0, none⟩), .bool first, .string last] w (EntSaid s first last a e p w) := by
  have hn : n < 256 := by have := numR_lt s a e 1; rw [hN] at this; exact this
  have hpw := (Array.getElem?_eq_some_iff.1 h.cell).1
  have HD0 := Lib.hid (h.below (bl_alloc (Below.refl _ w) (.cells #[.string ⟨#[]⟩, .int .u32 0] 39)))
  have HK0 := Lib.hid (Kept.ofBelow p (bl_alloc (Below.refl _ w) (.cells #[.string ⟨#[]⟩, .int .u32 0] 39)))
  have HX0 := Lib.hid (show EBox (w.alloc (.cells #[.string ⟨#[]⟩, .int .u32 0] 39)) w.heap.size from heap_alloc_new _ _)
  have hpb : w.heap.size ≠ p := by omega
  have HN := Lib.hid hN
  have hk8 : k < 256 := by have := numR_lt s a1 e1 1; rw [hK] at this; exact this
  have HKK := Lib.hid hK; have HR := Lib.hid hR
  have hf0 := stick hN hK hR hg
  have hnl : n ≤ last.size := by by_cases h2 : last.size < n; exact absurd ⟨hf0, h2⟩ c; omega
  have hf : ((f : Int) == 0) = true := by simp; omega
  have hd1 : decide ((last.size : Int) < (n : Int)) = false := by simp; omega
  have hd2 : decide (last.size < n) = false := by simp; omega
  have hgd : ((g : Int) != 0) = false := by simp; omega
  have htz : t.size ≤ 300 := by
    have := (numR_raw (n := k) (rd_le h.le hN hK) hR).2
    omega
  have hsum : ¬ (9223372036854775807 < (last.extract 0 n).size + t.size) := by have : (last.extract 0 n).size ≤ last.size := by rw [ByteArray.size_extract]; omega
                                                                               omega
  have hez : (last.extract 0 n).size = n := by rw [ByteArray.size_extract]; omega
  have hsum2 : ¬ (9223372036854775807 < n + t.size) := by omega
  have hnb : ¬ (255 < (last.extract 0 n ++ t).size ∨ alkB last (last.extract 0 n ++ t) ≠ n ∨ (first = false ∧ ltB last (last.extract 0 n ++ t) = false)) := by
    rintro (h1 | h1 | ⟨h1, h2⟩)
    · exact hb0 h1
    · exact h1 hb
    · rw [hfi] at h1; exact absurd h1 (by decide)
  have hx32 : x < 4294967296 := by have := numR_lt s a3 e3 4; rw [hB] at this; exact this
  have HB := Lib.hid hB
  have HC := Lib.hid (ent_6 (first := first) hN c hK hR hg hnb hB hh hx0)
  have HP := Lib.hid (show last.extract 0 n ++ t = last.extract 0 n ++ t from rfl)
  obtain ⟨P, hP⟩ : ∃ P, last.extract 0 n ++ t = P := ⟨_, rfl⟩
  have hPz : P.size ≤ 1000 := by rw [← hP]; simp only [ByteArray.size_append]; omega
  rw [hP] at hb hb0 HC
  have hb1 : decide (255 < (P.size : Int)) = false := by simp; omega
  have HAL := Lib.hid (fun W => tAlike last P (by unfold maxLen; omega) (by unfold maxLen; omega) W)
  obtain ⟨m, hm⟩ : ∃ m, alkB last P = m := ⟨_, rfl⟩
  rw [hm] at HAL hb
  have hb2 : ((m : Int) != (n : Int)) = false := by simp; omega
  have hb3 : (m != n) = false := by simp; omega
  have hb4 : ((m : Int) == (n : Int)) = true := by simp; omega
  subst hfi
  have hh1 : ((hx : Int) == 0) = true := by simp; omega
  have hh2 : ((x : Int) == 0) = false := by rw [beq_eq_false_iff_ne]; omega
  subst hh
  clear hx0
  have HRP := Lib.hid hP
  clear hN h hK hR c hg hf0 hP hb0 hb hm hB hnb
  go_enter Try.func56, Try.ntmps56
  go_wp2_with fail
  refine (rU8_ex p s a e _ n f a1 e1 HN.out HD0.out).mono ?_
  rintro r w1 ⟨rfl, hk, hr⟩
  have HK1 := Lib.hid (HK0.out.trans hk)
  have HX1 := Lib.hid (HX0.out.kept hk hpb)
  have HD1 := Lib.hid hr
  clear hk hr
  go_wp2_with fail
  refine (rU8_ex p s a1 e1 _ k f1 a2 e2 HKK.out HD1.out).mono ?_
  rintro r w2 ⟨rfl, hk, hr⟩
  have HK2 := Lib.hid (HK1.out.trans hk)
  have HX2 := Lib.hid (HX1.out.kept hk hpb)
  have HD2 := Lib.hid hr
  clear hk hr
  go_wp2_with fail
  refine (rRaw_ex p s a2 e2 w2 (k : Int) (by omega) (by omega) t g a3 e3 HR.out HD2.out).mono ?_
  rintro r w3 ⟨rfl, hk, hr⟩
  have HK3 := Lib.hid (HK2.out.trans hk)
  have HX3 := Lib.hid (HX2.out.kept hk hpb)
  have HD3 := Lib.hid hr
  obtain ⟨b0, b1, q0, q1⟩ := EBox.cells HX3.out
  clear hk hr
  go_upto_region 9 with (fail)
  rw [HRP.out]
  go_wp2_with fail
  refine (HAL.out _).mono ?_
  rintro r w4 ⟨rfl, nd, rfl⟩
  have HD4 := Lib.hid (HD3.out.drewN' nd)
  have HK4 := Lib.hid (HK3.out.drewN' nd)
  have HX4 := Lib.hid (show EBox (w3.drewN nd) w.heap.size from HX3.out)
  clear b0 b1 q0 q1
  generalize w3.drewN nd = w4 at *
  go_wp2_with fail
  refine (rU32_ex p s a3 e3 w4 x 0 a4 e4 HB.out HD4.out).mono ?_
  rintro r w5 ⟨rfl, hk, hr⟩
  have HK5 := Lib.hid (HK4.out.trans hk)
  have HX5 := Lib.hid (HX4.out.kept hk hpb)
  have HD5 := Lib.hid hr
  obtain ⟨b0, b1, q0, q1⟩ := EBox.cells HX5.out
  clear hk hr
  go_wp2
  obtain ⟨z0, z1, hkd⟩ := EBox.done P ((x : Nat) : Int) HX5.out HK5.out (Nat.le_refl _)
  refine bodyPost_ret (v := .tuple #[.agg #[.string P, .int .u32 ((x : Nat) : Int)], .int .i64 0]) (by simp [results, Try.results56, go_sem, z0, z1]) rfl ?_
  exact ent_good HC.out hkd (HD5.out.box2 (Ne.symm hpb))

set_option maxHeartbeats 2000000 in
set_option maxRecDepth 100000 in
theorem tEntry_4f (p : Nat) (s last : ByteArray) (first : Bool) (a e : Nat) (w : World) (hl : last.size ≤ 255) (h : IsRd TR w p s a e) (n f a1 e1 : Nat) (hN : numR s a e 1 = ((n, f), (a1, e1))) (c : ¬ (f = 0 ∧ last.size < n)) (k f1 a2 e2 : Nat) (hK : numR s a1 e1 1 = ((k, f1), (a2, e2))) (t : ByteArray) (g a3 e3 : Nat) (hR : rawR s a2 e2 k = ((t, g), (a3, e3))) (hg : g = 0) (hb0 : ¬ 255 < (last.extract 0 n ++ t).size) (hb : alkB last (last.extract 0 n ++ t) = n) (hfi : first = false) (hlt : ltB last (last.extract 0 n ++ t) = true) (x hx a4 e4 : Nat) (hB : numR s a3 e3 4 = ((x, hx), (a4, e4))) (hh : hx ≠ 0) :
    Calls Try.prog 56 #[.pointer (some ⟨p, 0, none⟩), .bool first, .string last] w (EntSaid s first last a e p w) := by
  have hn : n < 256 := by have := numR_lt s a e 1; rw [hN] at this; exact this
  have hpw := (Array.getElem?_eq_some_iff.1 h.cell).1
  have HD0 := Lib.hid (h.below (bl_alloc (Below.refl _ w) (.cells #[.string ⟨#[]⟩, .int .u32 0] 39)))
  have HK0 := Lib.hid (Kept.ofBelow p (bl_alloc (Below.refl _ w) (.cells #[.string ⟨#[]⟩, .int .u32 0] 39)))
  have HX0 := Lib.hid (show EBox (w.alloc (.cells #[.string ⟨#[]⟩, .int .u32 0] 39)) w.heap.size from heap_alloc_new _ _)
  have hpb : w.heap.size ≠ p := by omega
  have HN := Lib.hid hN
  have hk8 : k < 256 := by have := numR_lt s a1 e1 1; rw [hK] at this; exact this
  have HKK := Lib.hid hK; have HR := Lib.hid hR
  have hf0 := stick hN hK hR hg
  have hnl : n ≤ last.size := by by_cases h2 : last.size < n; exact absurd ⟨hf0, h2⟩ c; omega
  have hf : ((f : Int) == 0) = true := by simp; omega
  have hd1 : decide ((last.size : Int) < (n : Int)) = false := by simp; omega
  have hd2 : decide (last.size < n) = false := by simp; omega
  have hgd : ((g : Int) != 0) = false := by simp; omega
  have htz : t.size ≤ 300 := by
    have := (numR_raw (n := k) (rd_le h.le hN hK) hR).2
    omega
  have hsum : ¬ (9223372036854775807 < (last.extract 0 n).size + t.size) := by have : (last.extract 0 n).size ≤ last.size := by rw [ByteArray.size_extract]; omega
                                                                               omega
  have hez : (last.extract 0 n).size = n := by rw [ByteArray.size_extract]; omega
  have hsum2 : ¬ (9223372036854775807 < n + t.size) := by omega
  have hnb : ¬ (255 < (last.extract 0 n ++ t).size ∨ alkB last (last.extract 0 n ++ t) ≠ n ∨ (first = false ∧ ltB last (last.extract 0 n ++ t) = false)) := by
    rintro (h1 | h1 | ⟨h1, h2⟩)
    · exact hb0 h1
    · exact h1 hb
    · rw [hlt] at h2; exact absurd h2 (by decide)
  have hx32 : x < 4294967296 := by have := numR_lt s a3 e3 4; rw [hB] at this; exact this
  have HB := Lib.hid hB
  have HC := Lib.hid (ent_4 (first := first) hN c hK hR hg hnb hB hh)
  have HP := Lib.hid (show last.extract 0 n ++ t = last.extract 0 n ++ t from rfl)
  obtain ⟨P, hP⟩ : ∃ P, last.extract 0 n ++ t = P := ⟨_, rfl⟩
  have hPz : P.size ≤ 1000 := by rw [← hP]; simp only [ByteArray.size_append]; omega
  rw [hP] at hb hb0 hlt
  have hb1 : decide (255 < (P.size : Int)) = false := by simp; omega
  have HAL := Lib.hid (fun W => tAlike last P (by unfold maxLen; omega) (by unfold maxLen; omega) W)
  obtain ⟨m, hm⟩ : ∃ m, alkB last P = m := ⟨_, rfl⟩
  rw [hm] at HAL hb
  have hb2 : ((m : Int) != (n : Int)) = false := by simp; omega
  have hb3 : (m != n) = false := by simp; omega
  have hb4 : ((m : Int) == (n : Int)) = true := by simp; omega
  obtain ⟨hq1, hq2⟩ := leq_no hlt
  clear hlt
  subst hfi
  have hh1 : ((hx : Int) == 0) = false := by rw [beq_eq_false_iff_ne]; omega
  have HH := Lib.hid hh
  clear hh
  have HRP := Lib.hid hP
  clear hN h hK hR c hg hf0 hP hb0 hb hm hB hnb
  go_enter Try.func56, Try.ntmps56
  go_wp2_with fail
  refine (rU8_ex p s a e _ n f a1 e1 HN.out HD0.out).mono ?_
  rintro r w1 ⟨rfl, hk, hr⟩
  have HK1 := Lib.hid (HK0.out.trans hk)
  have HX1 := Lib.hid (HX0.out.kept hk hpb)
  have HD1 := Lib.hid hr
  clear hk hr
  go_wp2_with fail
  refine (rU8_ex p s a1 e1 _ k f1 a2 e2 HKK.out HD1.out).mono ?_
  rintro r w2 ⟨rfl, hk, hr⟩
  have HK2 := Lib.hid (HK1.out.trans hk)
  have HX2 := Lib.hid (HX1.out.kept hk hpb)
  have HD2 := Lib.hid hr
  clear hk hr
  go_wp2_with fail
  refine (rRaw_ex p s a2 e2 w2 (k : Int) (by omega) (by omega) t g a3 e3 HR.out HD2.out).mono ?_
  rintro r w3 ⟨rfl, hk, hr⟩
  have HK3 := Lib.hid (HK2.out.trans hk)
  have HX3 := Lib.hid (HX2.out.kept hk hpb)
  have HD3 := Lib.hid hr
  obtain ⟨b0, b1, q0, q1⟩ := EBox.cells HX3.out
  clear hk hr
  go_upto_region 9 with (fail)
  rw [HRP.out]
  go_wp2_with fail
  refine (HAL.out _).mono ?_
  rintro r w4 ⟨rfl, nd, rfl⟩
  have HD4 := Lib.hid (HD3.out.drewN' nd)
  have HK4 := Lib.hid (HK3.out.drewN' nd)
  have HX4 := Lib.hid (show EBox (w3.drewN nd) w.heap.size from HX3.out)
  clear b0 b1 q0 q1
  generalize w3.drewN nd = w4 at *
  go_wp2_with fail
  refine (rU32_ex p s a3 e3 w4 x hx a4 e4 HB.out HD4.out).mono ?_
  rintro r w5 ⟨rfl, hk, hr⟩
  have HK5 := Lib.hid (HK4.out.trans hk)
  have HX5 := Lib.hid (HX4.out.kept hk hpb)
  have HD5 := Lib.hid hr
  obtain ⟨b0, b1, q0, q1⟩ := EBox.cells HX5.out
  clear hk hr
  go_wp2
  obtain ⟨z0, z1, hkd⟩ := EBox.done P ((x : Nat) : Int) HX5.out HK5.out (Nat.le_refl _)
  refine bodyPost_ret (v := .tuple #[.agg #[.string P, .int .u32 ((x : Nat) : Int)], .int .i64 ((hx : Nat) : Int)]) (by simp [results, Try.results56, go_sem, z0, z1]) rfl ?_
  exact ent_bad HC.out HH.out hkd

set_option maxHeartbeats 2000000 in
set_option maxRecDepth 100000 in
theorem tEntry_5f (p : Nat) (s last : ByteArray) (first : Bool) (a e : Nat) (w : World) (hl : last.size ≤ 255) (h : IsRd TR w p s a e) (n f a1 e1 : Nat) (hN : numR s a e 1 = ((n, f), (a1, e1))) (c : ¬ (f = 0 ∧ last.size < n)) (k f1 a2 e2 : Nat) (hK : numR s a1 e1 1 = ((k, f1), (a2, e2))) (t : ByteArray) (g a3 e3 : Nat) (hR : rawR s a2 e2 k = ((t, g), (a3, e3))) (hg : g = 0) (hb0 : ¬ 255 < (last.extract 0 n ++ t).size) (hb : alkB last (last.extract 0 n ++ t) = n) (hfi : first = false) (hlt : ltB last (last.extract 0 n ++ t) = true) (x hx a4 e4 : Nat) (hB : numR s a3 e3 4 = ((x, hx), (a4, e4))) (hh : hx = 0) (hx0 : x = 0) :
    Calls Try.prog 56 #[.pointer (some ⟨p, 0, none⟩), .bool first, .string last] w (EntSaid s first last a e p w) := by
  have hn : n < 256 := by have := numR_lt s a e 1; rw [hN] at this; exact this
  have hpw := (Array.getElem?_eq_some_iff.1 h.cell).1
  have HD0 := Lib.hid (h.below (bl_alloc (Below.refl _ w) (.cells #[.string ⟨#[]⟩, .int .u32 0] 39)))
  have HK0 := Lib.hid (Kept.ofBelow p (bl_alloc (Below.refl _ w) (.cells #[.string ⟨#[]⟩, .int .u32 0] 39)))
  have HX0 := Lib.hid (show EBox (w.alloc (.cells #[.string ⟨#[]⟩, .int .u32 0] 39)) w.heap.size from heap_alloc_new _ _)
  have hpb : w.heap.size ≠ p := by omega
  have HN := Lib.hid hN
  have hk8 : k < 256 := by have := numR_lt s a1 e1 1; rw [hK] at this; exact this
  have HKK := Lib.hid hK; have HR := Lib.hid hR
  have hf0 := stick hN hK hR hg
  have hnl : n ≤ last.size := by by_cases h2 : last.size < n; exact absurd ⟨hf0, h2⟩ c; omega
  have hf : ((f : Int) == 0) = true := by simp; omega
  have hd1 : decide ((last.size : Int) < (n : Int)) = false := by simp; omega
  have hd2 : decide (last.size < n) = false := by simp; omega
  have hgd : ((g : Int) != 0) = false := by simp; omega
  have htz : t.size ≤ 300 := by
    have := (numR_raw (n := k) (rd_le h.le hN hK) hR).2
    omega
  have hsum : ¬ (9223372036854775807 < (last.extract 0 n).size + t.size) := by have : (last.extract 0 n).size ≤ last.size := by rw [ByteArray.size_extract]; omega
                                                                               omega
  have hez : (last.extract 0 n).size = n := by rw [ByteArray.size_extract]; omega
  have hsum2 : ¬ (9223372036854775807 < n + t.size) := by omega
  have hnb : ¬ (255 < (last.extract 0 n ++ t).size ∨ alkB last (last.extract 0 n ++ t) ≠ n ∨ (first = false ∧ ltB last (last.extract 0 n ++ t) = false)) := by
    rintro (h1 | h1 | ⟨h1, h2⟩)
    · exact hb0 h1
    · exact h1 hb
    · rw [hlt] at h2; exact absurd h2 (by decide)
  have hx32 : x < 4294967296 := by have := numR_lt s a3 e3 4; rw [hB] at this; exact this
  have HB := Lib.hid hB
  have HC := Lib.hid (ent_5 (first := first) hN c hK hR hg hnb hB hh hx0)
  have HP := Lib.hid (show last.extract 0 n ++ t = last.extract 0 n ++ t from rfl)
  obtain ⟨P, hP⟩ : ∃ P, last.extract 0 n ++ t = P := ⟨_, rfl⟩
  have hPz : P.size ≤ 1000 := by rw [← hP]; simp only [ByteArray.size_append]; omega
  rw [hP] at hb hb0 hlt
  have hb1 : decide (255 < (P.size : Int)) = false := by simp; omega
  have HAL := Lib.hid (fun W => tAlike last P (by unfold maxLen; omega) (by unfold maxLen; omega) W)
  obtain ⟨m, hm⟩ : ∃ m, alkB last P = m := ⟨_, rfl⟩
  rw [hm] at HAL hb
  have hb2 : ((m : Int) != (n : Int)) = false := by simp; omega
  have hb3 : (m != n) = false := by simp; omega
  have hb4 : ((m : Int) == (n : Int)) = true := by simp; omega
  obtain ⟨hq1, hq2⟩ := leq_no hlt
  clear hlt
  subst hfi
  have hh1 : ((hx : Int) == 0) = true := by simp; omega
  have hh2 : ((x : Int) == 0) = true := by simp; omega
  subst hx0
  clear hh
  have HRP := Lib.hid hP
  clear hN h hK hR c hg hf0 hP hb0 hb hm hB hnb
  go_enter Try.func56, Try.ntmps56
  go_wp2_with fail
  refine (rU8_ex p s a e _ n f a1 e1 HN.out HD0.out).mono ?_
  rintro r w1 ⟨rfl, hk, hr⟩
  have HK1 := Lib.hid (HK0.out.trans hk)
  have HX1 := Lib.hid (HX0.out.kept hk hpb)
  have HD1 := Lib.hid hr
  clear hk hr
  go_wp2_with fail
  refine (rU8_ex p s a1 e1 _ k f1 a2 e2 HKK.out HD1.out).mono ?_
  rintro r w2 ⟨rfl, hk, hr⟩
  have HK2 := Lib.hid (HK1.out.trans hk)
  have HX2 := Lib.hid (HX1.out.kept hk hpb)
  have HD2 := Lib.hid hr
  clear hk hr
  go_wp2_with fail
  refine (rRaw_ex p s a2 e2 w2 (k : Int) (by omega) (by omega) t g a3 e3 HR.out HD2.out).mono ?_
  rintro r w3 ⟨rfl, hk, hr⟩
  have HK3 := Lib.hid (HK2.out.trans hk)
  have HX3 := Lib.hid (HX2.out.kept hk hpb)
  have HD3 := Lib.hid hr
  obtain ⟨b0, b1, q0, q1⟩ := EBox.cells HX3.out
  clear hk hr
  go_upto_region 9 with (fail)
  rw [HRP.out]
  go_wp2_with fail
  refine (HAL.out _).mono ?_
  rintro r w4 ⟨rfl, nd, rfl⟩
  have HD4 := Lib.hid (HD3.out.drewN' nd)
  have HK4 := Lib.hid (HK3.out.drewN' nd)
  have HX4 := Lib.hid (show EBox (w3.drewN nd) w.heap.size from HX3.out)
  clear b0 b1 q0 q1
  generalize w3.drewN nd = w4 at *
  go_wp2_with fail
  refine (rU32_ex p s a3 e3 w4 0 hx a4 e4 HB.out HD4.out).mono ?_
  rintro r w5 ⟨rfl, hk, hr⟩
  have HK5 := Lib.hid (HK4.out.trans hk)
  have HX5 := Lib.hid (HX4.out.kept hk hpb)
  have HD5 := Lib.hid hr
  obtain ⟨b0, b1, q0, q1⟩ := EBox.cells HX5.out
  clear hk hr
  go_wp2
  obtain ⟨z0, z1, hkd⟩ := EBox.done P 0 HX5.out HK5.out (Nat.le_refl _)
  refine bodyPost_ret (v := .tuple #[.agg #[.string P, .int .u32 0], .int .i64 3]) (by simp [results, Try.results56, go_sem, z0, z1]) rfl ?_
  exact ent_bad (X := 0) (E := 3) HC.out (by decide) hkd

set_option maxHeartbeats 2000000 in
set_option maxRecDepth 100000 in
theorem tEntry_6f (p : Nat) (s last : ByteArray) (first : Bool) (a e : Nat) (w : World) (hl : last.size ≤ 255) (h : IsRd TR w p s a e) (n f a1 e1 : Nat) (hN : numR s a e 1 = ((n, f), (a1, e1))) (c : ¬ (f = 0 ∧ last.size < n)) (k f1 a2 e2 : Nat) (hK : numR s a1 e1 1 = ((k, f1), (a2, e2))) (t : ByteArray) (g a3 e3 : Nat) (hR : rawR s a2 e2 k = ((t, g), (a3, e3))) (hg : g = 0) (hb0 : ¬ 255 < (last.extract 0 n ++ t).size) (hb : alkB last (last.extract 0 n ++ t) = n) (hfi : first = false) (hlt : ltB last (last.extract 0 n ++ t) = true) (x hx a4 e4 : Nat) (hB : numR s a3 e3 4 = ((x, hx), (a4, e4))) (hh : hx = 0) (hx0 : x ≠ 0) :
    Calls Try.prog 56 #[.pointer (some ⟨p, 0, none⟩), .bool first, .string last] w (EntSaid s first last a e p w) := by
  have hn : n < 256 := by have := numR_lt s a e 1; rw [hN] at this; exact this
  have hpw := (Array.getElem?_eq_some_iff.1 h.cell).1
  have HD0 := Lib.hid (h.below (bl_alloc (Below.refl _ w) (.cells #[.string ⟨#[]⟩, .int .u32 0] 39)))
  have HK0 := Lib.hid (Kept.ofBelow p (bl_alloc (Below.refl _ w) (.cells #[.string ⟨#[]⟩, .int .u32 0] 39)))
  have HX0 := Lib.hid (show EBox (w.alloc (.cells #[.string ⟨#[]⟩, .int .u32 0] 39)) w.heap.size from heap_alloc_new _ _)
  have hpb : w.heap.size ≠ p := by omega
  have HN := Lib.hid hN
  have hk8 : k < 256 := by have := numR_lt s a1 e1 1; rw [hK] at this; exact this
  have HKK := Lib.hid hK; have HR := Lib.hid hR
  have hf0 := stick hN hK hR hg
  have hnl : n ≤ last.size := by by_cases h2 : last.size < n; exact absurd ⟨hf0, h2⟩ c; omega
  have hf : ((f : Int) == 0) = true := by simp; omega
  have hd1 : decide ((last.size : Int) < (n : Int)) = false := by simp; omega
  have hd2 : decide (last.size < n) = false := by simp; omega
  have hgd : ((g : Int) != 0) = false := by simp; omega
  have htz : t.size ≤ 300 := by
    have := (numR_raw (n := k) (rd_le h.le hN hK) hR).2
    omega
  have hsum : ¬ (9223372036854775807 < (last.extract 0 n).size + t.size) := by have : (last.extract 0 n).size ≤ last.size := by rw [ByteArray.size_extract]; omega
                                                                               omega
  have hez : (last.extract 0 n).size = n := by rw [ByteArray.size_extract]; omega
  have hsum2 : ¬ (9223372036854775807 < n + t.size) := by omega
  have hnb : ¬ (255 < (last.extract 0 n ++ t).size ∨ alkB last (last.extract 0 n ++ t) ≠ n ∨ (first = false ∧ ltB last (last.extract 0 n ++ t) = false)) := by
    rintro (h1 | h1 | ⟨h1, h2⟩)
    · exact hb0 h1
    · exact h1 hb
    · rw [hlt] at h2; exact absurd h2 (by decide)
  have hx32 : x < 4294967296 := by have := numR_lt s a3 e3 4; rw [hB] at this; exact this
  have HB := Lib.hid hB
  have HC := Lib.hid (ent_6 (first := first) hN c hK hR hg hnb hB hh hx0)
  have HP := Lib.hid (show last.extract 0 n ++ t = last.extract 0 n ++ t from rfl)
  obtain ⟨P, hP⟩ : ∃ P, last.extract 0 n ++ t = P := ⟨_, rfl⟩
  have hPz : P.size ≤ 1000 := by rw [← hP]; simp only [ByteArray.size_append]; omega
  rw [hP] at hb hb0 HC hlt
  have hb1 : decide (255 < (P.size : Int)) = false := by simp; omega
  have HAL := Lib.hid (fun W => tAlike last P (by unfold maxLen; omega) (by unfold maxLen; omega) W)
  obtain ⟨m, hm⟩ : ∃ m, alkB last P = m := ⟨_, rfl⟩
  rw [hm] at HAL hb
  have hb2 : ((m : Int) != (n : Int)) = false := by simp; omega
  have hb3 : (m != n) = false := by simp; omega
  have hb4 : ((m : Int) == (n : Int)) = true := by simp; omega
  obtain ⟨hq1, hq2⟩ := leq_no hlt
  clear hlt
  subst hfi
  have hh1 : ((hx : Int) == 0) = true := by simp; omega
  have hh2 : ((x : Int) == 0) = false := by rw [beq_eq_false_iff_ne]; omega
  subst hh
  clear hx0
  have HRP := Lib.hid hP
  clear hN h hK hR c hg hf0 hP hb0 hb hm hB hnb
  go_enter Try.func56, Try.ntmps56
  go_wp2_with fail
  refine (rU8_ex p s a e _ n f a1 e1 HN.out HD0.out).mono ?_
  rintro r w1 ⟨rfl, hk, hr⟩
  have HK1 := Lib.hid (HK0.out.trans hk)
  have HX1 := Lib.hid (HX0.out.kept hk hpb)
  have HD1 := Lib.hid hr
  clear hk hr
  go_wp2_with fail
  refine (rU8_ex p s a1 e1 _ k f1 a2 e2 HKK.out HD1.out).mono ?_
  rintro r w2 ⟨rfl, hk, hr⟩
  have HK2 := Lib.hid (HK1.out.trans hk)
  have HX2 := Lib.hid (HX1.out.kept hk hpb)
  have HD2 := Lib.hid hr
  clear hk hr
  go_wp2_with fail
  refine (rRaw_ex p s a2 e2 w2 (k : Int) (by omega) (by omega) t g a3 e3 HR.out HD2.out).mono ?_
  rintro r w3 ⟨rfl, hk, hr⟩
  have HK3 := Lib.hid (HK2.out.trans hk)
  have HX3 := Lib.hid (HX2.out.kept hk hpb)
  have HD3 := Lib.hid hr
  obtain ⟨b0, b1, q0, q1⟩ := EBox.cells HX3.out
  clear hk hr
  go_upto_region 9 with (fail)
  rw [HRP.out]
  go_wp2_with fail
  refine (HAL.out _).mono ?_
  rintro r w4 ⟨rfl, nd, rfl⟩
  have HD4 := Lib.hid (HD3.out.drewN' nd)
  have HK4 := Lib.hid (HK3.out.drewN' nd)
  have HX4 := Lib.hid (show EBox (w3.drewN nd) w.heap.size from HX3.out)
  clear b0 b1 q0 q1
  generalize w3.drewN nd = w4 at *
  go_wp2_with fail
  refine (rU32_ex p s a3 e3 w4 x 0 a4 e4 HB.out HD4.out).mono ?_
  rintro r w5 ⟨rfl, hk, hr⟩
  have HK5 := Lib.hid (HK4.out.trans hk)
  have HX5 := Lib.hid (HX4.out.kept hk hpb)
  have HD5 := Lib.hid hr
  obtain ⟨b0, b1, q0, q1⟩ := EBox.cells HX5.out
  clear hk hr
  go_wp2
  obtain ⟨z0, z1, hkd⟩ := EBox.done P ((x : Nat) : Int) HX5.out HK5.out (Nat.le_refl _)
  refine bodyPost_ret (v := .tuple #[.agg #[.string P, .int .u32 ((x : Nat) : Int)], .int .i64 0]) (by simp [results, Try.results56, go_sem, z0, z1]) rfl ?_
  exact ent_good HC.out hkd (HD5.out.box2 (Ne.symm hpb))

theorem tEntry (p : Nat) (s last : ByteArray) (first : Bool) (a e : Nat) (w : World) (hl : last.size ≤ 255) (h : IsRd TR w p s a e) :
    Calls Try.prog 56 #[.pointer (some ⟨p, 0, none⟩), .bool first, .string last] w (EntSaid s first last a e p w) := by
  obtain ⟨n, f, a1, e1, hN⟩ : ∃ v f b g, numR s a e 1 = ((v, f), (b, g)) := ⟨_, _, _, _, rfl⟩
  by_cases c : f = 0 ∧ last.size < n
  · exact tEntry_1 p s last first a e w hl h n f a1 e1 hN c
  · obtain ⟨k, f1, a2, e2, hK⟩ : ∃ v f b g, numR s a1 e1 1 = ((v, f), (b, g)) := ⟨_, _, _, _, rfl⟩
    obtain ⟨t, g, a3, e3, hR⟩ : ∃ v f b g, rawR s a2 e2 k = ((v, f), (b, g)) := ⟨_, _, _, _, rfl⟩
    by_cases hg : g = 0
    · by_cases hb0 : 255 < (last.extract 0 n ++ t).size
      · exact tEntry_3a p s last first a e w hl h n f a1 e1 hN c k f1 a2 e2 hK t g a3 e3 hR hg hb0
      · by_cases hb : alkB last (last.extract 0 n ++ t) = n
        · obtain ⟨x, hx, a4, e4, hB⟩ : ∃ v f b g, numR s a3 e3 4 = ((v, f), (b, g)) := ⟨_, _, _, _, rfl⟩
          by_cases hfi : first = true
          · by_cases hh : hx = 0
            · by_cases hx0 : x = 0
              · exact tEntry_5t p s last first a e w hl h n f a1 e1 hN c k f1 a2 e2 hK t g a3 e3 hR hg hb0 hb hfi x hx a4 e4 hB hh hx0
              · exact tEntry_6t p s last first a e w hl h n f a1 e1 hN c k f1 a2 e2 hK t g a3 e3 hR hg hb0 hb hfi x hx a4 e4 hB hh hx0
            · exact tEntry_4t p s last first a e w hl h n f a1 e1 hN c k f1 a2 e2 hK t g a3 e3 hR hg hb0 hb hfi x hx a4 e4 hB hh
          · have hfi : first = false := by simpa using hfi
            cases hlt : ltB last (last.extract 0 n ++ t)
            · exact tEntry_3c p s last first a e w hl h n f a1 e1 hN c k f1 a2 e2 hK t g a3 e3 hR hg hb0 hb hfi hlt
            · by_cases hh : hx = 0
              · by_cases hx0 : x = 0
                · exact tEntry_5f p s last first a e w hl h n f a1 e1 hN c k f1 a2 e2 hK t g a3 e3 hR hg hb0 hb hfi hlt x hx a4 e4 hB hh hx0
                · exact tEntry_6f p s last first a e w hl h n f a1 e1 hN c k f1 a2 e2 hK t g a3 e3 hR hg hb0 hb hfi hlt x hx a4 e4 hB hh hx0
              · exact tEntry_4f p s last first a e w hl h n f a1 e1 hN c k f1 a2 e2 hK t g a3 e3 hR hg hb0 hb hfi hlt x hx a4 e4 hB hh
        · exact tEntry_3b p s last first a e w hl h n f a1 e1 hN c k f1 a2 e2 hK t g a3 e3 hR hg hb0 hb
    · exact tEntry_2 p s last first a e w hl h n f a1 e1 hN c k f1 a2 e2 hK t g a3 e3 hR hg

end Go.Proofs.Ytdjpmgkcgpkkmaa
