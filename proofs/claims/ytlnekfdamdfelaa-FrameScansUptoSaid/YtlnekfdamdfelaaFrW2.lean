/- Walks of layer 7: what bytes are read as, in the program. -/
import Derived.Test.YtlnekfdamdfelaaFrMath2
import Derived.Test.YtlnekfdamdfelaaFrW1
import Derived.Test.YtlnekfdamdfelaaRdW8
set_option linter.unusedVariables false
set_option linter.unusedSimpArgs false
namespace Go.Proofs.Ytlnekfdamdfelaa
open Go.RowKit PackMath SumMath FrMath

theorem bne_true {a b : Nat} (h : a ≠ b) : (((a : Nat) : Int) != ((b : Nat) : Int)) = true := by simp; omega
theorem bne_false {a b : Nat} (h : a = b) : (((a : Nat) : Int) != ((b : Nat) : Int)) = false := by simp; omega
def DecFSaid (s : ByteArray) (w : World) (r : Ending) (w' : World) : Prop :=
  r = .returned (.tuple #[.agg #[.int .i64 ((decP s).2.1 : Nat), .string (decP s).2.2.1], .int .i64 ((decP s).2.2.2 : Nat), .int .i64 ((decP s).1 : Nat)]) ∧ Below w.heap.size w w'
theorem decF_mk {s b : ByteArray} {w w' : World} {E k n : Nat} (h : decP s = (E, (k, (b, n)))) (hb : Below w.heap.size w w') : DecFSaid s w (.returned (.tuple #[.agg #[.int .i64 k, .string b], .int .i64 n, .int .i64 E])) w' := by
  unfold DecFSaid; rw [h]; exact ⟨rfl, hb⟩

/-- The answer's box, nothing in it yet. -/
structure FAt (w wr : World) : Prop where
  row : wr.heap[w.heap.size]? = some (.cells #[.int .i64 0, .string ⟨#[]⟩] 25 (0, 0))
  bel : Below w.heap.size w wr
theorem FAt.start (w : World) : FAt w (w.alloc (.cells #[.int .i64 0, .string ⟨#[]⟩] 25)) := ⟨heap_alloc_new _ _, bl_alloc (Below.refl _ _) _⟩
theorem fbox_size (w : World) : (w.alloc (.cells #[.int .i64 0, .string ⟨#[]⟩] 25)).heap.size = w.heap.size + 1 := by simp
theorem FAt.lt {w wr : World} (h : FAt w wr) : w.heap.size < wr.heap.size := (Array.getElem?_eq_some_iff.1 h.row).1
theorem FAt.below {w wr w1 : World} (h : FAt w wr) (hb : Below wr.heap.size wr w1) : FAt w w1 := ⟨by rw [hb.block _ h.lt]; exact h.row, bl_trans h.bel hb⟩
theorem FAt.kept {w wr w1 : World} {p : Nat} (h : FAt w wr) (k : Kept wr w1 p) (hp : w.heap.size < p) : FAt w w1 :=
  ⟨by rw [k.block _ h.lt (by omega)]; exact h.row, h.bel.trans (k.below (by omega) h.bel.size)⟩
theorem FAt.cells {w wr : World} (h : FAt w wr) : wr.cell? ⟨w.heap.size, 0, none⟩ = some (.int .i64 0) ∧ wr.cell? ⟨w.heap.size, 1, none⟩ = some (.string ⟨#[]⟩) ∧ wr.frozen? ⟨w.heap.size, 0, none⟩ = false ∧ wr.frozen? ⟨w.heap.size, 1, none⟩ = false :=
  ⟨by rw [cell_of_row _ _ _ _ _ _ h.row]; rfl, by rw [cell_of_row _ _ _ _ _ _ h.row]; rfl, frozen_of_row _ _ _ _ _ h.row, frozen_of_row _ _ _ _ _ h.row⟩
theorem FAt.done {w wr : World} {k : Int} {b : ByteArray} (h : FAt w wr) :
    ((wr.setCell ⟨w.heap.size, 0, none⟩ (.int .i64 k)).setCell ⟨w.heap.size, 1, none⟩ (.string b)).cell? ⟨w.heap.size, 0, none⟩ = some (.int .i64 k) ∧
    ((wr.setCell ⟨w.heap.size, 0, none⟩ (.int .i64 k)).setCell ⟨w.heap.size, 1, none⟩ (.string b)).cell? ⟨w.heap.size, 1, none⟩ = some (.string b) ∧
    Below w.heap.size w ((wr.setCell ⟨w.heap.size, 0, none⟩ (.int .i64 k)).setCell ⟨w.heap.size, 1, none⟩ (.string b)) := by
  have h1 := heap_setCell_same wr w.heap.size 0 _ _ (.int .i64 k) h.row
  have h2 := heap_setCell_same _ w.heap.size 1 _ _ (.string b) h1
  exact ⟨by rw [cell_of_row _ _ _ _ _ _ h2]; rfl, by rw [cell_of_row _ _ _ _ _ _ h2]; rfl, (h.bel.setCell (Nat.le_refl _) _).setCell (Nat.le_refl _) _⟩
theorem raw3 (p : Nat) (s : ByteArray) (a e : Nat) (w : World) (n : Nat) (hn : n < 9223372036854775808) (b : ByteArray) (f a3 e3 : Nat) (hN : rawR s a e n = ((b, f), (a3, e3))) (h : IsRd TR w p s a e) : Calls Try.prog 31 #[.pointer (some ⟨p, 0, none⟩), .int .i64 n] w fun r w' => r = .returned (.tuple #[.string b, .int .i64 f]) ∧ Kept w w' p ∧ IsRd TR w' p s a3 e3 :=
  rRaw_ex p s a e w n (by omega) (by omega) b f a3 e3 hN h

set_option maxHeartbeats 1000000 in
set_option maxRecDepth 100000 in
theorem fd_zero (s : ByteArray) (hs : s.size < 281474976710656) (w : World) (k f0 a1 e1 : Nat) (hN0 : numR s 0 0 1 = ((k, f0), (a1, e1))) (hA : f0 = 0) (hA2 : k = 0) : Calls Try.prog 13 #[.string s] w (DecFSaid s w) := by
  have HF := Lib.hid (dp_zero hN0 ⟨hA, hA2⟩)
  have hd0 : ((f0 : Int) == 0) = true := by simp; omega
  have hd00 : ((k : Int) == 0) = true := by simp; omega
  have HN0 := Lib.hid hN0
  have hk8 : k < 256 := by have := numR_lt s 0 0 1; rw [hN0] at this; exact this
  clear hN0
  clear hA hA2
  have HR0 := Lib.hid (FAt.start w)
  go_enter Try.func13, Try.ntmps13
  go_wp2_with (go_at_call 28; refine (rd_new _ s hs).mono ?_; rintro r w1 ⟨rfl, hb, hr⟩; rw [fbox_size] at hr; have HR1 := Lib.hid (HR0.out.below hb); have HD1 := Lib.hid hr; clear hb hr)
  go_wp2_with (go_at_call 29; (with_reducible refine (rU8_ex _ s 0 0 w1 k f0 a1 e1 HN0.out HD1.out).mono ?_); rintro r w2 ⟨rfl, hk, hr⟩; have HR2 := Lib.hid (HR1.out.kept hk (Nat.lt_succ_self _)); have HD2 := Lib.hid hr; obtain ⟨r0, r1, q0, q1⟩ := (HR1.out.kept hk (Nat.lt_succ_self _)).cells; clear hk hr)
  obtain ⟨z0, z1, hbz⟩ := FAt.done (k := 0) (b := ⟨#[]⟩) HR2.out
  refine bodyPost_ret (v := .tuple #[.agg #[.int .i64 0, .string ⟨#[]⟩], .int .i64 0, .int .i64 3]) (by simp [results, Try.results13, go_sem, z0, z1]) rfl ?_
  exact decF_mk HF.out hbz

set_option maxHeartbeats 1000000 in
set_option maxRecDepth 100000 in
theorem fd_len_x (s : ByteArray) (hs : s.size < 281474976710656) (w : World) (k f0 a1 e1 : Nat) (hN0 : numR s 0 0 1 = ((k, f0), (a1, e1))) (n f1 a2 e2 : Nat) (hN1 : numR s a1 e1 4 = ((n, f1), (a2, e2))) (hA : f0 ≠ 0) (hB : f1 ≠ 0) : Calls Try.prog 13 #[.string s] w (DecFSaid s w) := by
  have HF := Lib.hid (dp_len hN0 hN1 (fun h => hA h.1) hB)
  have hd0 : ((f0 : Int) == 0) = false := by simp; omega
  have hd1 : ((f1 : Int) != 0) = true := by simp; omega
  have HN0 := Lib.hid hN0; have HN1 := Lib.hid hN1
  have hk8 : k < 256 := by have := numR_lt s 0 0 1; rw [hN0] at this; exact this
  have hn32 : n < 4294967296 := by have := numR_lt s a1 e1 4; rw [hN1] at this; exact this
  have hnl : n < 9223372036854775808 := by omega
  clear hN0 hN1
  clear hA
  clear hB
  have HR0 := Lib.hid (FAt.start w)
  go_enter Try.func13, Try.ntmps13
  go_wp2_with (go_at_call 28; refine (rd_new _ s hs).mono ?_; rintro r w1 ⟨rfl, hb, hr⟩; rw [fbox_size] at hr; have HR1 := Lib.hid (HR0.out.below hb); have HD1 := Lib.hid hr; clear hb hr)
  go_wp2_with (go_at_call 29; (with_reducible refine (rU8_ex _ s 0 0 w1 k f0 a1 e1 HN0.out HD1.out).mono ?_); rintro r w2 ⟨rfl, hk, hr⟩; have HR2 := Lib.hid (HR1.out.kept hk (Nat.lt_succ_self _)); have HD2 := Lib.hid hr; clear hk hr)
  go_wp2_with (go_at_call 30; (with_reducible refine (rU32_ex _ s a1 e1 w2 n f1 a2 e2 HN1.out HD2.out).mono ?_); rintro r w3 ⟨rfl, hk, hr⟩; have HR3 := Lib.hid (HR2.out.kept hk (Nat.lt_succ_self _)); have HD3 := Lib.hid hr; obtain ⟨r0, r1, q0, q1⟩ := (HR2.out.kept hk (Nat.lt_succ_self _)).cells; clear hk hr)
  obtain ⟨z0, z1, hbz⟩ := FAt.done (k := 0) (b := ⟨#[]⟩) HR3.out
  refine bodyPost_ret (v := .tuple #[.agg #[.int .i64 0, .string ⟨#[]⟩], .int .i64 0, .int .i64 (f1 : Nat)]) (by simp [results, Try.results13, go_sem, z0, z1]) rfl ?_
  exact decF_mk HF.out hbz

set_option maxHeartbeats 1000000 in
set_option maxRecDepth 100000 in
theorem fd_great_x (s : ByteArray) (hs : s.size < 281474976710656) (w : World) (k f0 a1 e1 : Nat) (hN0 : numR s 0 0 1 = ((k, f0), (a1, e1))) (n f1 a2 e2 : Nat) (hN1 : numR s a1 e1 4 = ((n, f1), (a2, e2))) (hA : f0 ≠ 0) (hB : f1 = 0) (hC : 1048576 < n) : Calls Try.prog 13 #[.string s] w (DecFSaid s w) := by
  have HF := Lib.hid (dp_great hN0 hN1 (fun h => hA h.1) hB hC)
  have hd0 : ((f0 : Int) == 0) = false := by simp; omega
  have hd1 : ((f1 : Int) != 0) = false := by simp; omega
  have hd2 : decide ((1048576 : Int) < (n : Int)) = true := by simp; omega
  have HN0 := Lib.hid hN0; have HN1 := Lib.hid hN1
  have hk8 : k < 256 := by have := numR_lt s 0 0 1; rw [hN0] at this; exact this
  have hn32 : n < 4294967296 := by have := numR_lt s a1 e1 4; rw [hN1] at this; exact this
  have hnl : n < 9223372036854775808 := by omega
  clear hN0 hN1
  clear hA
  clear hB
  have HR0 := Lib.hid (FAt.start w)
  go_enter Try.func13, Try.ntmps13
  go_wp2_with (go_at_call 28; refine (rd_new _ s hs).mono ?_; rintro r w1 ⟨rfl, hb, hr⟩; rw [fbox_size] at hr; have HR1 := Lib.hid (HR0.out.below hb); have HD1 := Lib.hid hr; clear hb hr)
  go_wp2_with (go_at_call 29; (with_reducible refine (rU8_ex _ s 0 0 w1 k f0 a1 e1 HN0.out HD1.out).mono ?_); rintro r w2 ⟨rfl, hk, hr⟩; have HR2 := Lib.hid (HR1.out.kept hk (Nat.lt_succ_self _)); have HD2 := Lib.hid hr; clear hk hr)
  go_wp2_with (go_at_call 30; (with_reducible refine (rU32_ex _ s a1 e1 w2 n f1 a2 e2 HN1.out HD2.out).mono ?_); rintro r w3 ⟨rfl, hk, hr⟩; have HR3 := Lib.hid (HR2.out.kept hk (Nat.lt_succ_self _)); have HD3 := Lib.hid hr; obtain ⟨r0, r1, q0, q1⟩ := (HR2.out.kept hk (Nat.lt_succ_self _)).cells; clear hk hr)
  obtain ⟨z0, z1, hbz⟩ := FAt.done (k := 0) (b := ⟨#[]⟩) HR3.out
  refine bodyPost_ret (v := .tuple #[.agg #[.int .i64 0, .string ⟨#[]⟩], .int .i64 0, .int .i64 3]) (by simp [results, Try.results13, go_sem, z0, z1]) rfl ?_
  exact decF_mk HF.out hbz

set_option maxHeartbeats 1000000 in
set_option maxRecDepth 100000 in
theorem fd_short_x (s : ByteArray) (hs : s.size < 281474976710656) (w : World) (k f0 a1 e1 : Nat) (hN0 : numR s 0 0 1 = ((k, f0), (a1, e1))) (n f1 a2 e2 : Nat) (hN1 : numR s a1 e1 4 = ((n, f1), (a2, e2))) (b : ByteArray) (f2 a3 e3 : Nat) (hN2 : rawR s a2 e2 n = ((b, f2), (a3, e3))) (c f3 a4 e4 : Nat) (hN3 : numR s a3 e3 4 = ((c, f3), (a4, e4))) (hA : f0 ≠ 0) (hB : f1 = 0) (hC : ¬ 1048576 < n) (hD : f3 ≠ 0) : Calls Try.prog 13 #[.string s] w (DecFSaid s w) := by
  have HF := Lib.hid (dp_short hN0 hN1 hN2 hN3 (fun h => hA h.1) hB hC hD)
  have hd0 : ((f0 : Int) == 0) = false := by simp; omega
  have hd1 : ((f1 : Int) != 0) = false := by simp; omega
  have hd2 : decide ((1048576 : Int) < (n : Int)) = false := by simp; omega
  have hd3 : ((f3 : Int) != 0) = true := by simp; omega
  have HN0 := Lib.hid hN0; have HN1 := Lib.hid hN1
  have hk8 : k < 256 := by have := numR_lt s 0 0 1; rw [hN0] at this; exact this
  have hn32 : n < 4294967296 := by have := numR_lt s a1 e1 4; rw [hN1] at this; exact this
  have hnl : n < 9223372036854775808 := by omega
  have HN2 := Lib.hid hN2; have HN3 := Lib.hid hN3
  have hcl : c < 4294967296 := by have := numR_lt s a3 e3 4; rw [hN3] at this; exact this
  clear hN0 hN1 hN2 hN3
  clear hA
  clear hB hD
  have HR0 := Lib.hid (FAt.start w)
  go_enter Try.func13, Try.ntmps13
  go_wp2_with (go_at_call 28; refine (rd_new _ s hs).mono ?_; rintro r w1 ⟨rfl, hb, hr⟩; rw [fbox_size] at hr; have HR1 := Lib.hid (HR0.out.below hb); have HD1 := Lib.hid hr; clear hb hr)
  go_wp2_with (go_at_call 29; (with_reducible refine (rU8_ex _ s 0 0 w1 k f0 a1 e1 HN0.out HD1.out).mono ?_); rintro r w2 ⟨rfl, hk, hr⟩; have HR2 := Lib.hid (HR1.out.kept hk (Nat.lt_succ_self _)); have HD2 := Lib.hid hr; clear hk hr)
  go_wp2_with (go_at_call 30; (with_reducible refine (rU32_ex _ s a1 e1 w2 n f1 a2 e2 HN1.out HD2.out).mono ?_); rintro r w3 ⟨rfl, hk, hr⟩; have HR3 := Lib.hid (HR2.out.kept hk (Nat.lt_succ_self _)); have HD3 := Lib.hid hr; clear hk hr)
  go_wp2_with (go_at_call 31; (with_reducible refine (raw3 _ s a2 e2 w3 n hnl b f2 a3 e3 HN2.out HD3.out).mono ?_); rintro r w4 ⟨rfl, hk, hr⟩; have HR4 := Lib.hid (HR3.out.kept hk (Nat.lt_succ_self _)); have HD4 := Lib.hid hr; clear hk hr)
  go_wp2_with (go_at_call 30; (with_reducible refine (rU32_ex _ s a3 e3 w4 c f3 a4 e4 HN3.out HD4.out).mono ?_); rintro r w5 ⟨rfl, hk, hr⟩; have HR5 := Lib.hid (HR4.out.kept hk (Nat.lt_succ_self _)); have HD5 := Lib.hid hr; obtain ⟨r0, r1, q0, q1⟩ := (HR4.out.kept hk (Nat.lt_succ_self _)).cells; clear hk hr)
  obtain ⟨z0, z1, hbz⟩ := FAt.done (k := 0) (b := ⟨#[]⟩) HR5.out
  refine bodyPost_ret (v := .tuple #[.agg #[.int .i64 0, .string ⟨#[]⟩], .int .i64 0, .int .i64 (f3 : Nat)]) (by simp [results, Try.results13, go_sem, z0, z1]) rfl ?_
  exact decF_mk HF.out hbz

set_option maxHeartbeats 1000000 in
set_option maxRecDepth 100000 in
theorem fd_sum_x (s : ByteArray) (hs : s.size < 281474976710656) (w : World) (k f0 a1 e1 : Nat) (hN0 : numR s 0 0 1 = ((k, f0), (a1, e1))) (n f1 a2 e2 : Nat) (hN1 : numR s a1 e1 4 = ((n, f1), (a2, e2))) (b : ByteArray) (f2 a3 e3 : Nat) (hN2 : rawR s a2 e2 n = ((b, f2), (a3, e3))) (c f3 a4 e4 : Nat) (hN3 : numR s a3 e3 4 = ((c, f3), (a4, e4))) (hA : f0 ≠ 0) (hB : f1 = 0) (hC : ¬ 1048576 < n) (hD : f3 = 0) (hE : c ≠ crc (s.extract 0 (a4 - 4)).data.toList) : Calls Try.prog 13 #[.string s] w (DecFSaid s w) := by
  have HF := Lib.hid (dp_sum hN0 hN1 hN2 hN3 (fun h => hA h.1) hB hC hD hE)
  have hd0 : ((f0 : Int) == 0) = false := by simp; omega
  have hd1 : ((f1 : Int) != 0) = false := by simp; omega
  have hd2 : decide ((1048576 : Int) < (n : Int)) = false := by simp; omega
  have hd3 : ((f3 : Int) != 0) = false := by simp; omega
  have hd4 : (((c : Nat) : Int) != ((crc (s.extract 0 (a4 - 4)).data.toList : Nat) : Int)) = true := bne_true hE
  obtain ⟨he4, hes⟩ := dp_end hN3 hD
  have hsub : IntKind.i64.wrap ((a4 : Int) - 4) = ((a4 - 4 : Nat) : Int) := by rw [show (a4 : Int) - 4 = ((a4 - 4 : Nat) : Int) by omega]; exact IntWalk.i64_in _ (by omega)
  have hsub2 : (a4 : Int) - 4 = ((a4 - 4 : Nat) : Int) := by omega
  have hxs : (s.extract 0 (a4 - 4)).size ≤ maxLen := by rw [ByteArray.size_extract]; unfold maxLen; omega
  have hle4 : a4 - 4 ≤ s.size := by omega
  generalize a4 - 4 = m4 at *
  have HSM := Lib.hid (fun W => sumOne (s.extract 0 m4) hxs W)
  generalize crc (s.extract 0 m4).data.toList = q4 at hd4 HSM hE
  have HN0 := Lib.hid hN0; have HN1 := Lib.hid hN1
  have hk8 : k < 256 := by have := numR_lt s 0 0 1; rw [hN0] at this; exact this
  have hn32 : n < 4294967296 := by have := numR_lt s a1 e1 4; rw [hN1] at this; exact this
  have hnl : n < 9223372036854775808 := by omega
  have HN2 := Lib.hid hN2; have HN3 := Lib.hid hN3
  have hcl : c < 4294967296 := by have := numR_lt s a3 e3 4; rw [hN3] at this; exact this
  clear hN0 hN1 hN2 hN3
  clear hA
  clear hB hD hE
  have HR0 := Lib.hid (FAt.start w)
  go_enter Try.func13, Try.ntmps13
  go_wp2_with (go_at_call 28; refine (rd_new _ s hs).mono ?_; rintro r w1 ⟨rfl, hb, hr⟩; rw [fbox_size] at hr; have HR1 := Lib.hid (HR0.out.below hb); have HD1 := Lib.hid hr; clear hb hr)
  go_wp2_with (go_at_call 29; (with_reducible refine (rU8_ex _ s 0 0 w1 k f0 a1 e1 HN0.out HD1.out).mono ?_); rintro r w2 ⟨rfl, hk, hr⟩; have HR2 := Lib.hid (HR1.out.kept hk (Nat.lt_succ_self _)); have HD2 := Lib.hid hr; clear hk hr)
  go_wp2_with (go_at_call 30; (with_reducible refine (rU32_ex _ s a1 e1 w2 n f1 a2 e2 HN1.out HD2.out).mono ?_); rintro r w3 ⟨rfl, hk, hr⟩; have HR3 := Lib.hid (HR2.out.kept hk (Nat.lt_succ_self _)); have HD3 := Lib.hid hr; clear hk hr)
  go_wp2_with (go_at_call 31; (with_reducible refine (raw3 _ s a2 e2 w3 n hnl b f2 a3 e3 HN2.out HD3.out).mono ?_); rintro r w4 ⟨rfl, hk, hr⟩; have HR4 := Lib.hid (HR3.out.kept hk (Nat.lt_succ_self _)); have HD4 := Lib.hid hr; clear hk hr)
  go_wp2_with (go_at_call 30; (with_reducible refine (rU32_ex _ s a3 e3 w4 c f3 a4 e4 HN3.out HD4.out).mono ?_); rintro r w5 ⟨rfl, hk, hr⟩; have HR5 := Lib.hid (HR4.out.kept hk (Nat.lt_succ_self _)); have HD5 := Lib.hid hr; obtain ⟨r0, r1, q0, q1⟩ := (HR4.out.kept hk (Nat.lt_succ_self _)).cells; clear hk hr)
  go_wp2_with (first
    | (go_at_call 32; (with_reducible refine (rAt _ s a4 e4 w5 HD5.out).mono ?_); rintro r wx ⟨rfl, rfl⟩)
    | (go_at_call 25; (with_reducible refine (HSM.out w5).mono ?_); rintro r w6 ⟨rfl, hb⟩; have HR6 := Lib.hid (HR5.out.below hb); have HD6 := Lib.hid (HD5.out.below hb); obtain ⟨r0, r1, q0, q1⟩ := (HR5.out.below hb).cells; clear hb))
  obtain ⟨z0, z1, hbz⟩ := FAt.done (k := 0) (b := ⟨#[]⟩) HR6.out
  refine bodyPost_ret (v := .tuple #[.agg #[.int .i64 0, .string ⟨#[]⟩], .int .i64 0, .int .i64 4]) (by simp [results, Try.results13, go_sem, z0, z1]) rfl ?_
  exact decF_mk HF.out hbz

set_option maxHeartbeats 1000000 in
set_option maxRecDepth 100000 in
theorem fd_ok_x (s : ByteArray) (hs : s.size < 281474976710656) (w : World) (k f0 a1 e1 : Nat) (hN0 : numR s 0 0 1 = ((k, f0), (a1, e1))) (n f1 a2 e2 : Nat) (hN1 : numR s a1 e1 4 = ((n, f1), (a2, e2))) (b : ByteArray) (f2 a3 e3 : Nat) (hN2 : rawR s a2 e2 n = ((b, f2), (a3, e3))) (c f3 a4 e4 : Nat) (hN3 : numR s a3 e3 4 = ((c, f3), (a4, e4))) (hA : f0 ≠ 0) (hB : f1 = 0) (hC : ¬ 1048576 < n) (hD : f3 = 0) (hE : c = crc (s.extract 0 (a4 - 4)).data.toList) : Calls Try.prog 13 #[.string s] w (DecFSaid s w) := by
  have HF := Lib.hid (dp_ok hN0 hN1 hN2 hN3 (fun h => hA h.1) hB hC hD hE)
  have hd0 : ((f0 : Int) == 0) = false := by simp; omega
  have hd1 : ((f1 : Int) != 0) = false := by simp; omega
  have hd2 : decide ((1048576 : Int) < (n : Int)) = false := by simp; omega
  have hd3 : ((f3 : Int) != 0) = false := by simp; omega
  have hd4 : (((c : Nat) : Int) != ((crc (s.extract 0 (a4 - 4)).data.toList : Nat) : Int)) = false := bne_false hE
  obtain ⟨he4, hes⟩ := dp_end hN3 hD
  have hsub : IntKind.i64.wrap ((a4 : Int) - 4) = ((a4 - 4 : Nat) : Int) := by rw [show (a4 : Int) - 4 = ((a4 - 4 : Nat) : Int) by omega]; exact IntWalk.i64_in _ (by omega)
  have hsub2 : (a4 : Int) - 4 = ((a4 - 4 : Nat) : Int) := by omega
  have hxs : (s.extract 0 (a4 - 4)).size ≤ maxLen := by rw [ByteArray.size_extract]; unfold maxLen; omega
  have hle4 : a4 - 4 ≤ s.size := by omega
  generalize a4 - 4 = m4 at *
  have HSM := Lib.hid (fun W => sumOne (s.extract 0 m4) hxs W)
  generalize crc (s.extract 0 m4).data.toList = q4 at hd4 HSM hE
  have HN0 := Lib.hid hN0; have HN1 := Lib.hid hN1
  have hk8 : k < 256 := by have := numR_lt s 0 0 1; rw [hN0] at this; exact this
  have hn32 : n < 4294967296 := by have := numR_lt s a1 e1 4; rw [hN1] at this; exact this
  have hnl : n < 9223372036854775808 := by omega
  have HN2 := Lib.hid hN2; have HN3 := Lib.hid hN3
  have hcl : c < 4294967296 := by have := numR_lt s a3 e3 4; rw [hN3] at this; exact this
  clear hN0 hN1 hN2 hN3
  clear hA
  clear hB hD hE
  have HR0 := Lib.hid (FAt.start w)
  go_enter Try.func13, Try.ntmps13
  go_wp2_with (go_at_call 28; refine (rd_new _ s hs).mono ?_; rintro r w1 ⟨rfl, hb, hr⟩; rw [fbox_size] at hr; have HR1 := Lib.hid (HR0.out.below hb); have HD1 := Lib.hid hr; clear hb hr)
  go_wp2_with (go_at_call 29; (with_reducible refine (rU8_ex _ s 0 0 w1 k f0 a1 e1 HN0.out HD1.out).mono ?_); rintro r w2 ⟨rfl, hk, hr⟩; have HR2 := Lib.hid (HR1.out.kept hk (Nat.lt_succ_self _)); have HD2 := Lib.hid hr; clear hk hr)
  go_wp2_with (go_at_call 30; (with_reducible refine (rU32_ex _ s a1 e1 w2 n f1 a2 e2 HN1.out HD2.out).mono ?_); rintro r w3 ⟨rfl, hk, hr⟩; have HR3 := Lib.hid (HR2.out.kept hk (Nat.lt_succ_self _)); have HD3 := Lib.hid hr; clear hk hr)
  go_wp2_with (go_at_call 31; (with_reducible refine (raw3 _ s a2 e2 w3 n hnl b f2 a3 e3 HN2.out HD3.out).mono ?_); rintro r w4 ⟨rfl, hk, hr⟩; have HR4 := Lib.hid (HR3.out.kept hk (Nat.lt_succ_self _)); have HD4 := Lib.hid hr; clear hk hr)
  go_wp2_with (go_at_call 30; (with_reducible refine (rU32_ex _ s a3 e3 w4 c f3 a4 e4 HN3.out HD4.out).mono ?_); rintro r w5 ⟨rfl, hk, hr⟩; have HR5 := Lib.hid (HR4.out.kept hk (Nat.lt_succ_self _)); have HD5 := Lib.hid hr; obtain ⟨r0, r1, q0, q1⟩ := (HR4.out.kept hk (Nat.lt_succ_self _)).cells; clear hk hr)
  go_wp2_with (first
    | (go_at_call 32; (with_reducible refine (rAt _ s a4 e4 w5 HD5.out).mono ?_); rintro r wx ⟨rfl, rfl⟩)
    | (go_at_call 25; (with_reducible refine (HSM.out w5).mono ?_); rintro r w6 ⟨rfl, hb⟩; have HR6 := Lib.hid (HR5.out.below hb); have HD6 := Lib.hid (HD5.out.below hb); obtain ⟨r0, r1, q0, q1⟩ := (HR5.out.below hb).cells; clear hb))
  go_wp2_with (go_at_call 32; (with_reducible refine (rAt _ s a4 e4 w6 HD6.out).mono ?_); rintro r wx ⟨rfl, rfl⟩)
  obtain ⟨z0, z1, hbz⟩ := FAt.done (k := (k : Nat)) (b := b) HR6.out
  refine bodyPost_ret (v := .tuple #[.agg #[.int .i64 (k : Nat), .string b], .int .i64 (a4 : Nat), .int .i64 0]) (by simp [results, Try.results13, go_sem, z0, z1]) rfl ?_
  exact decF_mk HF.out hbz

set_option maxHeartbeats 1000000 in
set_option maxRecDepth 100000 in
theorem fd_len_y (s : ByteArray) (hs : s.size < 281474976710656) (w : World) (k f0 a1 e1 : Nat) (hN0 : numR s 0 0 1 = ((k, f0), (a1, e1))) (n f1 a2 e2 : Nat) (hN1 : numR s a1 e1 4 = ((n, f1), (a2, e2))) (hA : f0 = 0) (hA2 : k ≠ 0) (hB : f1 ≠ 0) : Calls Try.prog 13 #[.string s] w (DecFSaid s w) := by
  have HF := Lib.hid (dp_len hN0 hN1 (fun h => hA2 h.2) hB)
  have hd0 : ((f0 : Int) == 0) = true := by simp; omega
  have hd00 : ((k : Int) == 0) = false := by simp; omega
  have hd1 : ((f1 : Int) != 0) = true := by simp; omega
  have HN0 := Lib.hid hN0; have HN1 := Lib.hid hN1
  have hk8 : k < 256 := by have := numR_lt s 0 0 1; rw [hN0] at this; exact this
  have hn32 : n < 4294967296 := by have := numR_lt s a1 e1 4; rw [hN1] at this; exact this
  have hnl : n < 9223372036854775808 := by omega
  clear hN0 hN1
  clear hA hA2
  clear hB
  have HR0 := Lib.hid (FAt.start w)
  go_enter Try.func13, Try.ntmps13
  go_wp2_with (go_at_call 28; refine (rd_new _ s hs).mono ?_; rintro r w1 ⟨rfl, hb, hr⟩; rw [fbox_size] at hr; have HR1 := Lib.hid (HR0.out.below hb); have HD1 := Lib.hid hr; clear hb hr)
  go_wp2_with (go_at_call 29; (with_reducible refine (rU8_ex _ s 0 0 w1 k f0 a1 e1 HN0.out HD1.out).mono ?_); rintro r w2 ⟨rfl, hk, hr⟩; have HR2 := Lib.hid (HR1.out.kept hk (Nat.lt_succ_self _)); have HD2 := Lib.hid hr; clear hk hr)
  go_wp2_with (go_at_call 30; (with_reducible refine (rU32_ex _ s a1 e1 w2 n f1 a2 e2 HN1.out HD2.out).mono ?_); rintro r w3 ⟨rfl, hk, hr⟩; have HR3 := Lib.hid (HR2.out.kept hk (Nat.lt_succ_self _)); have HD3 := Lib.hid hr; obtain ⟨r0, r1, q0, q1⟩ := (HR2.out.kept hk (Nat.lt_succ_self _)).cells; clear hk hr)
  obtain ⟨z0, z1, hbz⟩ := FAt.done (k := 0) (b := ⟨#[]⟩) HR3.out
  refine bodyPost_ret (v := .tuple #[.agg #[.int .i64 0, .string ⟨#[]⟩], .int .i64 0, .int .i64 (f1 : Nat)]) (by simp [results, Try.results13, go_sem, z0, z1]) rfl ?_
  exact decF_mk HF.out hbz

set_option maxHeartbeats 1000000 in
set_option maxRecDepth 100000 in
theorem fd_great_y (s : ByteArray) (hs : s.size < 281474976710656) (w : World) (k f0 a1 e1 : Nat) (hN0 : numR s 0 0 1 = ((k, f0), (a1, e1))) (n f1 a2 e2 : Nat) (hN1 : numR s a1 e1 4 = ((n, f1), (a2, e2))) (hA : f0 = 0) (hA2 : k ≠ 0) (hB : f1 = 0) (hC : 1048576 < n) : Calls Try.prog 13 #[.string s] w (DecFSaid s w) := by
  have HF := Lib.hid (dp_great hN0 hN1 (fun h => hA2 h.2) hB hC)
  have hd0 : ((f0 : Int) == 0) = true := by simp; omega
  have hd00 : ((k : Int) == 0) = false := by simp; omega
  have hd1 : ((f1 : Int) != 0) = false := by simp; omega
  have hd2 : decide ((1048576 : Int) < (n : Int)) = true := by simp; omega
  have HN0 := Lib.hid hN0; have HN1 := Lib.hid hN1
  have hk8 : k < 256 := by have := numR_lt s 0 0 1; rw [hN0] at this; exact this
  have hn32 : n < 4294967296 := by have := numR_lt s a1 e1 4; rw [hN1] at this; exact this
  have hnl : n < 9223372036854775808 := by omega
  clear hN0 hN1
  clear hA hA2
  clear hB
  have HR0 := Lib.hid (FAt.start w)
  go_enter Try.func13, Try.ntmps13
  go_wp2_with (go_at_call 28; refine (rd_new _ s hs).mono ?_; rintro r w1 ⟨rfl, hb, hr⟩; rw [fbox_size] at hr; have HR1 := Lib.hid (HR0.out.below hb); have HD1 := Lib.hid hr; clear hb hr)
  go_wp2_with (go_at_call 29; (with_reducible refine (rU8_ex _ s 0 0 w1 k f0 a1 e1 HN0.out HD1.out).mono ?_); rintro r w2 ⟨rfl, hk, hr⟩; have HR2 := Lib.hid (HR1.out.kept hk (Nat.lt_succ_self _)); have HD2 := Lib.hid hr; clear hk hr)
  go_wp2_with (go_at_call 30; (with_reducible refine (rU32_ex _ s a1 e1 w2 n f1 a2 e2 HN1.out HD2.out).mono ?_); rintro r w3 ⟨rfl, hk, hr⟩; have HR3 := Lib.hid (HR2.out.kept hk (Nat.lt_succ_self _)); have HD3 := Lib.hid hr; obtain ⟨r0, r1, q0, q1⟩ := (HR2.out.kept hk (Nat.lt_succ_self _)).cells; clear hk hr)
  obtain ⟨z0, z1, hbz⟩ := FAt.done (k := 0) (b := ⟨#[]⟩) HR3.out
  refine bodyPost_ret (v := .tuple #[.agg #[.int .i64 0, .string ⟨#[]⟩], .int .i64 0, .int .i64 3]) (by simp [results, Try.results13, go_sem, z0, z1]) rfl ?_
  exact decF_mk HF.out hbz

set_option maxHeartbeats 1000000 in
set_option maxRecDepth 100000 in
theorem fd_short_y (s : ByteArray) (hs : s.size < 281474976710656) (w : World) (k f0 a1 e1 : Nat) (hN0 : numR s 0 0 1 = ((k, f0), (a1, e1))) (n f1 a2 e2 : Nat) (hN1 : numR s a1 e1 4 = ((n, f1), (a2, e2))) (b : ByteArray) (f2 a3 e3 : Nat) (hN2 : rawR s a2 e2 n = ((b, f2), (a3, e3))) (c f3 a4 e4 : Nat) (hN3 : numR s a3 e3 4 = ((c, f3), (a4, e4))) (hA : f0 = 0) (hA2 : k ≠ 0) (hB : f1 = 0) (hC : ¬ 1048576 < n) (hD : f3 ≠ 0) : Calls Try.prog 13 #[.string s] w (DecFSaid s w) := by
  have HF := Lib.hid (dp_short hN0 hN1 hN2 hN3 (fun h => hA2 h.2) hB hC hD)
  have hd0 : ((f0 : Int) == 0) = true := by simp; omega
  have hd00 : ((k : Int) == 0) = false := by simp; omega
  have hd1 : ((f1 : Int) != 0) = false := by simp; omega
  have hd2 : decide ((1048576 : Int) < (n : Int)) = false := by simp; omega
  have hd3 : ((f3 : Int) != 0) = true := by simp; omega
  have HN0 := Lib.hid hN0; have HN1 := Lib.hid hN1
  have hk8 : k < 256 := by have := numR_lt s 0 0 1; rw [hN0] at this; exact this
  have hn32 : n < 4294967296 := by have := numR_lt s a1 e1 4; rw [hN1] at this; exact this
  have hnl : n < 9223372036854775808 := by omega
  have HN2 := Lib.hid hN2; have HN3 := Lib.hid hN3
  have hcl : c < 4294967296 := by have := numR_lt s a3 e3 4; rw [hN3] at this; exact this
  clear hN0 hN1 hN2 hN3
  clear hA hA2
  clear hB hD
  have HR0 := Lib.hid (FAt.start w)
  go_enter Try.func13, Try.ntmps13
  go_wp2_with (go_at_call 28; refine (rd_new _ s hs).mono ?_; rintro r w1 ⟨rfl, hb, hr⟩; rw [fbox_size] at hr; have HR1 := Lib.hid (HR0.out.below hb); have HD1 := Lib.hid hr; clear hb hr)
  go_wp2_with (go_at_call 29; (with_reducible refine (rU8_ex _ s 0 0 w1 k f0 a1 e1 HN0.out HD1.out).mono ?_); rintro r w2 ⟨rfl, hk, hr⟩; have HR2 := Lib.hid (HR1.out.kept hk (Nat.lt_succ_self _)); have HD2 := Lib.hid hr; clear hk hr)
  go_wp2_with (go_at_call 30; (with_reducible refine (rU32_ex _ s a1 e1 w2 n f1 a2 e2 HN1.out HD2.out).mono ?_); rintro r w3 ⟨rfl, hk, hr⟩; have HR3 := Lib.hid (HR2.out.kept hk (Nat.lt_succ_self _)); have HD3 := Lib.hid hr; clear hk hr)
  go_wp2_with (go_at_call 31; (with_reducible refine (raw3 _ s a2 e2 w3 n hnl b f2 a3 e3 HN2.out HD3.out).mono ?_); rintro r w4 ⟨rfl, hk, hr⟩; have HR4 := Lib.hid (HR3.out.kept hk (Nat.lt_succ_self _)); have HD4 := Lib.hid hr; clear hk hr)
  go_wp2_with (go_at_call 30; (with_reducible refine (rU32_ex _ s a3 e3 w4 c f3 a4 e4 HN3.out HD4.out).mono ?_); rintro r w5 ⟨rfl, hk, hr⟩; have HR5 := Lib.hid (HR4.out.kept hk (Nat.lt_succ_self _)); have HD5 := Lib.hid hr; obtain ⟨r0, r1, q0, q1⟩ := (HR4.out.kept hk (Nat.lt_succ_self _)).cells; clear hk hr)
  obtain ⟨z0, z1, hbz⟩ := FAt.done (k := 0) (b := ⟨#[]⟩) HR5.out
  refine bodyPost_ret (v := .tuple #[.agg #[.int .i64 0, .string ⟨#[]⟩], .int .i64 0, .int .i64 (f3 : Nat)]) (by simp [results, Try.results13, go_sem, z0, z1]) rfl ?_
  exact decF_mk HF.out hbz

set_option maxHeartbeats 1000000 in
set_option maxRecDepth 100000 in
theorem fd_sum_y (s : ByteArray) (hs : s.size < 281474976710656) (w : World) (k f0 a1 e1 : Nat) (hN0 : numR s 0 0 1 = ((k, f0), (a1, e1))) (n f1 a2 e2 : Nat) (hN1 : numR s a1 e1 4 = ((n, f1), (a2, e2))) (b : ByteArray) (f2 a3 e3 : Nat) (hN2 : rawR s a2 e2 n = ((b, f2), (a3, e3))) (c f3 a4 e4 : Nat) (hN3 : numR s a3 e3 4 = ((c, f3), (a4, e4))) (hA : f0 = 0) (hA2 : k ≠ 0) (hB : f1 = 0) (hC : ¬ 1048576 < n) (hD : f3 = 0) (hE : c ≠ crc (s.extract 0 (a4 - 4)).data.toList) : Calls Try.prog 13 #[.string s] w (DecFSaid s w) := by
  have HF := Lib.hid (dp_sum hN0 hN1 hN2 hN3 (fun h => hA2 h.2) hB hC hD hE)
  have hd0 : ((f0 : Int) == 0) = true := by simp; omega
  have hd00 : ((k : Int) == 0) = false := by simp; omega
  have hd1 : ((f1 : Int) != 0) = false := by simp; omega
  have hd2 : decide ((1048576 : Int) < (n : Int)) = false := by simp; omega
  have hd3 : ((f3 : Int) != 0) = false := by simp; omega
  have hd4 : (((c : Nat) : Int) != ((crc (s.extract 0 (a4 - 4)).data.toList : Nat) : Int)) = true := bne_true hE
  obtain ⟨he4, hes⟩ := dp_end hN3 hD
  have hsub : IntKind.i64.wrap ((a4 : Int) - 4) = ((a4 - 4 : Nat) : Int) := by rw [show (a4 : Int) - 4 = ((a4 - 4 : Nat) : Int) by omega]; exact IntWalk.i64_in _ (by omega)
  have hsub2 : (a4 : Int) - 4 = ((a4 - 4 : Nat) : Int) := by omega
  have hxs : (s.extract 0 (a4 - 4)).size ≤ maxLen := by rw [ByteArray.size_extract]; unfold maxLen; omega
  have hle4 : a4 - 4 ≤ s.size := by omega
  generalize a4 - 4 = m4 at *
  have HSM := Lib.hid (fun W => sumOne (s.extract 0 m4) hxs W)
  generalize crc (s.extract 0 m4).data.toList = q4 at hd4 HSM hE
  have HN0 := Lib.hid hN0; have HN1 := Lib.hid hN1
  have hk8 : k < 256 := by have := numR_lt s 0 0 1; rw [hN0] at this; exact this
  have hn32 : n < 4294967296 := by have := numR_lt s a1 e1 4; rw [hN1] at this; exact this
  have hnl : n < 9223372036854775808 := by omega
  have HN2 := Lib.hid hN2; have HN3 := Lib.hid hN3
  have hcl : c < 4294967296 := by have := numR_lt s a3 e3 4; rw [hN3] at this; exact this
  clear hN0 hN1 hN2 hN3
  clear hA hA2
  clear hB hD hE
  have HR0 := Lib.hid (FAt.start w)
  go_enter Try.func13, Try.ntmps13
  go_wp2_with (go_at_call 28; refine (rd_new _ s hs).mono ?_; rintro r w1 ⟨rfl, hb, hr⟩; rw [fbox_size] at hr; have HR1 := Lib.hid (HR0.out.below hb); have HD1 := Lib.hid hr; clear hb hr)
  go_wp2_with (go_at_call 29; (with_reducible refine (rU8_ex _ s 0 0 w1 k f0 a1 e1 HN0.out HD1.out).mono ?_); rintro r w2 ⟨rfl, hk, hr⟩; have HR2 := Lib.hid (HR1.out.kept hk (Nat.lt_succ_self _)); have HD2 := Lib.hid hr; clear hk hr)
  go_wp2_with (go_at_call 30; (with_reducible refine (rU32_ex _ s a1 e1 w2 n f1 a2 e2 HN1.out HD2.out).mono ?_); rintro r w3 ⟨rfl, hk, hr⟩; have HR3 := Lib.hid (HR2.out.kept hk (Nat.lt_succ_self _)); have HD3 := Lib.hid hr; clear hk hr)
  go_wp2_with (go_at_call 31; (with_reducible refine (raw3 _ s a2 e2 w3 n hnl b f2 a3 e3 HN2.out HD3.out).mono ?_); rintro r w4 ⟨rfl, hk, hr⟩; have HR4 := Lib.hid (HR3.out.kept hk (Nat.lt_succ_self _)); have HD4 := Lib.hid hr; clear hk hr)
  go_wp2_with (go_at_call 30; (with_reducible refine (rU32_ex _ s a3 e3 w4 c f3 a4 e4 HN3.out HD4.out).mono ?_); rintro r w5 ⟨rfl, hk, hr⟩; have HR5 := Lib.hid (HR4.out.kept hk (Nat.lt_succ_self _)); have HD5 := Lib.hid hr; obtain ⟨r0, r1, q0, q1⟩ := (HR4.out.kept hk (Nat.lt_succ_self _)).cells; clear hk hr)
  go_wp2_with (first
    | (go_at_call 32; (with_reducible refine (rAt _ s a4 e4 w5 HD5.out).mono ?_); rintro r wx ⟨rfl, rfl⟩)
    | (go_at_call 25; (with_reducible refine (HSM.out w5).mono ?_); rintro r w6 ⟨rfl, hb⟩; have HR6 := Lib.hid (HR5.out.below hb); have HD6 := Lib.hid (HD5.out.below hb); obtain ⟨r0, r1, q0, q1⟩ := (HR5.out.below hb).cells; clear hb))
  obtain ⟨z0, z1, hbz⟩ := FAt.done (k := 0) (b := ⟨#[]⟩) HR6.out
  refine bodyPost_ret (v := .tuple #[.agg #[.int .i64 0, .string ⟨#[]⟩], .int .i64 0, .int .i64 4]) (by simp [results, Try.results13, go_sem, z0, z1]) rfl ?_
  exact decF_mk HF.out hbz

set_option maxHeartbeats 1000000 in
set_option maxRecDepth 100000 in
theorem fd_ok_y (s : ByteArray) (hs : s.size < 281474976710656) (w : World) (k f0 a1 e1 : Nat) (hN0 : numR s 0 0 1 = ((k, f0), (a1, e1))) (n f1 a2 e2 : Nat) (hN1 : numR s a1 e1 4 = ((n, f1), (a2, e2))) (b : ByteArray) (f2 a3 e3 : Nat) (hN2 : rawR s a2 e2 n = ((b, f2), (a3, e3))) (c f3 a4 e4 : Nat) (hN3 : numR s a3 e3 4 = ((c, f3), (a4, e4))) (hA : f0 = 0) (hA2 : k ≠ 0) (hB : f1 = 0) (hC : ¬ 1048576 < n) (hD : f3 = 0) (hE : c = crc (s.extract 0 (a4 - 4)).data.toList) : Calls Try.prog 13 #[.string s] w (DecFSaid s w) := by
  have HF := Lib.hid (dp_ok hN0 hN1 hN2 hN3 (fun h => hA2 h.2) hB hC hD hE)
  have hd0 : ((f0 : Int) == 0) = true := by simp; omega
  have hd00 : ((k : Int) == 0) = false := by simp; omega
  have hd1 : ((f1 : Int) != 0) = false := by simp; omega
  have hd2 : decide ((1048576 : Int) < (n : Int)) = false := by simp; omega
  have hd3 : ((f3 : Int) != 0) = false := by simp; omega
  have hd4 : (((c : Nat) : Int) != ((crc (s.extract 0 (a4 - 4)).data.toList : Nat) : Int)) = false := bne_false hE
  obtain ⟨he4, hes⟩ := dp_end hN3 hD
  have hsub : IntKind.i64.wrap ((a4 : Int) - 4) = ((a4 - 4 : Nat) : Int) := by rw [show (a4 : Int) - 4 = ((a4 - 4 : Nat) : Int) by omega]; exact IntWalk.i64_in _ (by omega)
  have hsub2 : (a4 : Int) - 4 = ((a4 - 4 : Nat) : Int) := by omega
  have hxs : (s.extract 0 (a4 - 4)).size ≤ maxLen := by rw [ByteArray.size_extract]; unfold maxLen; omega
  have hle4 : a4 - 4 ≤ s.size := by omega
  generalize a4 - 4 = m4 at *
  have HSM := Lib.hid (fun W => sumOne (s.extract 0 m4) hxs W)
  generalize crc (s.extract 0 m4).data.toList = q4 at hd4 HSM hE
  have HN0 := Lib.hid hN0; have HN1 := Lib.hid hN1
  have hk8 : k < 256 := by have := numR_lt s 0 0 1; rw [hN0] at this; exact this
  have hn32 : n < 4294967296 := by have := numR_lt s a1 e1 4; rw [hN1] at this; exact this
  have hnl : n < 9223372036854775808 := by omega
  have HN2 := Lib.hid hN2; have HN3 := Lib.hid hN3
  have hcl : c < 4294967296 := by have := numR_lt s a3 e3 4; rw [hN3] at this; exact this
  clear hN0 hN1 hN2 hN3
  clear hA hA2
  clear hB hD hE
  have HR0 := Lib.hid (FAt.start w)
  go_enter Try.func13, Try.ntmps13
  go_wp2_with (go_at_call 28; refine (rd_new _ s hs).mono ?_; rintro r w1 ⟨rfl, hb, hr⟩; rw [fbox_size] at hr; have HR1 := Lib.hid (HR0.out.below hb); have HD1 := Lib.hid hr; clear hb hr)
  go_wp2_with (go_at_call 29; (with_reducible refine (rU8_ex _ s 0 0 w1 k f0 a1 e1 HN0.out HD1.out).mono ?_); rintro r w2 ⟨rfl, hk, hr⟩; have HR2 := Lib.hid (HR1.out.kept hk (Nat.lt_succ_self _)); have HD2 := Lib.hid hr; clear hk hr)
  go_wp2_with (go_at_call 30; (with_reducible refine (rU32_ex _ s a1 e1 w2 n f1 a2 e2 HN1.out HD2.out).mono ?_); rintro r w3 ⟨rfl, hk, hr⟩; have HR3 := Lib.hid (HR2.out.kept hk (Nat.lt_succ_self _)); have HD3 := Lib.hid hr; clear hk hr)
  go_wp2_with (go_at_call 31; (with_reducible refine (raw3 _ s a2 e2 w3 n hnl b f2 a3 e3 HN2.out HD3.out).mono ?_); rintro r w4 ⟨rfl, hk, hr⟩; have HR4 := Lib.hid (HR3.out.kept hk (Nat.lt_succ_self _)); have HD4 := Lib.hid hr; clear hk hr)
  go_wp2_with (go_at_call 30; (with_reducible refine (rU32_ex _ s a3 e3 w4 c f3 a4 e4 HN3.out HD4.out).mono ?_); rintro r w5 ⟨rfl, hk, hr⟩; have HR5 := Lib.hid (HR4.out.kept hk (Nat.lt_succ_self _)); have HD5 := Lib.hid hr; obtain ⟨r0, r1, q0, q1⟩ := (HR4.out.kept hk (Nat.lt_succ_self _)).cells; clear hk hr)
  go_wp2_with (first
    | (go_at_call 32; (with_reducible refine (rAt _ s a4 e4 w5 HD5.out).mono ?_); rintro r wx ⟨rfl, rfl⟩)
    | (go_at_call 25; (with_reducible refine (HSM.out w5).mono ?_); rintro r w6 ⟨rfl, hb⟩; have HR6 := Lib.hid (HR5.out.below hb); have HD6 := Lib.hid (HD5.out.below hb); obtain ⟨r0, r1, q0, q1⟩ := (HR5.out.below hb).cells; clear hb))
  go_wp2_with (go_at_call 32; (with_reducible refine (rAt _ s a4 e4 w6 HD6.out).mono ?_); rintro r wx ⟨rfl, rfl⟩)
  obtain ⟨z0, z1, hbz⟩ := FAt.done (k := (k : Nat)) (b := b) HR6.out
  refine bodyPost_ret (v := .tuple #[.agg #[.int .i64 (k : Nat), .string b], .int .i64 (a4 : Nat), .int .i64 0]) (by simp [results, Try.results13, go_sem, z0, z1]) rfl ?_
  exact decF_mk HF.out hbz

theorem fDecode (s : ByteArray) (hs : s.size < 281474976710656) (w : World) : Calls Try.prog 13 #[.string s] w (DecFSaid s w) := by
  obtain ⟨k, f0, a1, e1, hN0⟩ : ∃ v f b g, numR s 0 0 1 = ((v, f), (b, g)) := ⟨_, _, _, _, rfl⟩
  obtain ⟨n, f1, a2, e2, hN1⟩ : ∃ v f b g, numR s a1 e1 4 = ((v, f), (b, g)) := ⟨_, _, _, _, rfl⟩
  obtain ⟨b, f2, a3, e3, hN2⟩ : ∃ v f b g, rawR s a2 e2 n = ((v, f), (b, g)) := ⟨_, _, _, _, rfl⟩
  obtain ⟨c, f3, a4, e4, hN3⟩ : ∃ v f b g, numR s a3 e3 4 = ((v, f), (b, g)) := ⟨_, _, _, _, rfl⟩
  by_cases hA : f0 = 0
  · by_cases hA2 : k = 0
    · exact fd_zero s hs w k f0 a1 e1 hN0 hA hA2
    · by_cases hB : f1 = 0
      · by_cases hC : 1048576 < n
        · exact fd_great_y s hs w k f0 a1 e1 hN0 n f1 a2 e2 hN1 hA hA2 hB hC
        · by_cases hD : f3 = 0
          · by_cases hE : c = crc (s.extract 0 (a4 - 4)).data.toList
            · exact fd_ok_y s hs w k f0 a1 e1 hN0 n f1 a2 e2 hN1 b f2 a3 e3 hN2 c f3 a4 e4 hN3 hA hA2 hB hC hD hE
            · exact fd_sum_y s hs w k f0 a1 e1 hN0 n f1 a2 e2 hN1 b f2 a3 e3 hN2 c f3 a4 e4 hN3 hA hA2 hB hC hD hE
          · exact fd_short_y s hs w k f0 a1 e1 hN0 n f1 a2 e2 hN1 b f2 a3 e3 hN2 c f3 a4 e4 hN3 hA hA2 hB hC hD
      · exact fd_len_y s hs w k f0 a1 e1 hN0 n f1 a2 e2 hN1 hA hA2 hB
  · by_cases hB : f1 = 0
    · by_cases hC : 1048576 < n
      · exact fd_great_x s hs w k f0 a1 e1 hN0 n f1 a2 e2 hN1 hA hB hC
      · by_cases hD : f3 = 0
        · by_cases hE : c = crc (s.extract 0 (a4 - 4)).data.toList
          · exact fd_ok_x s hs w k f0 a1 e1 hN0 n f1 a2 e2 hN1 b f2 a3 e3 hN2 c f3 a4 e4 hN3 hA hB hC hD hE
          · exact fd_sum_x s hs w k f0 a1 e1 hN0 n f1 a2 e2 hN1 b f2 a3 e3 hN2 c f3 a4 e4 hN3 hA hB hC hD hE
        · exact fd_short_x s hs w k f0 a1 e1 hN0 n f1 a2 e2 hN1 b f2 a3 e3 hN2 c f3 a4 e4 hN3 hA hB hC hD
    · exact fd_len_x s hs w k f0 a1 e1 hN0 n f1 a2 e2 hN1 hA hB
end Go.Proofs.Ytlnekfdamdfelaa
