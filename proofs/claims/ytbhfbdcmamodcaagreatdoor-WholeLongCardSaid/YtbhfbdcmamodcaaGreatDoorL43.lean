/- The whole: a graph file is told. -/
import Derived.Test.YtbhfbdcmamodcaaGreatDoorL41
set_option linter.unusedVariables false
set_option linter.unusedSimpArgs false
namespace Go.Proofs.YtbhfbdcmamodcaaGreatDoor
open Go.RowKit PackMath SumMath
theorem pick0 {a c : List UInt8} : ∀ i, i < 5 → (fun j => if j = 0 then c else pick a ([] : List UInt8) [] [] [] j) i = pick c ([] : List UInt8) [] [] [] i
  | 0, _ => rfl
  | 1, _ => rfl
  | 2, _ => rfl
  | 3, _ => rfl
  | 4, _ => rfl
theorem cells_at_new (w : World) (xs : List Value) (t : TypeId) : CellsAt (w.alloc (.cells xs.toArray t)) (some ⟨w.heap.size, 0, none⟩) xs := fun j v hj =>
  ⟨w.heap.size, 0, rfl, by simp, by rw [cell_of_row _ _ _ _ _ _ (heap_alloc_new w _), Nat.zero_add]; simpa using hj⟩
section
variable {w0 w : World} {p : Nat → Nat} {c : List UInt8} {F : Nat → Foot}
theorem hdU8 (h : WsF w0 w p (pick c [] [] [] []) F) (q : Nat) (hq : p 0 = q) (x : Int) (k : Nat) (hx : x = k) (hk : k < 256) (hl : c.length ≤ 1000) :
    Calls Tryz.prog 74 #[.pointer (some ⟨q, 0, none⟩), .int .u8 x] w fun e w' => e = .returned (.tuple #[]) ∧ ∃ F', WsF w0 w' p (pick (c ++ be k 1) [] [] [] []) F' :=
  (wsU8 h 0 (by decide) q hq x k hx hk (by show c.length ≤ _; omega)).mono fun e w' ⟨k1, F', k2, _⟩ => ⟨k1, F', k2.congr pick0⟩
theorem hdU16 (h : WsF w0 w p (pick c [] [] [] []) F) (q : Nat) (hq : p 0 = q) (x : Int) (k : Nat) (hx : x = k) (hk : k < 65536) (hl : c.length ≤ 1000) :
    Calls Tryz.prog 72 #[.pointer (some ⟨q, 0, none⟩), .int .u16 x] w fun e w' => e = .returned (.tuple #[]) ∧ ∃ F', WsF w0 w' p (pick (c ++ be k 2) [] [] [] []) F' :=
  (wsU16 h 0 (by decide) q hq x k hx hk (by show c.length ≤ _; omega)).mono fun e w' ⟨k1, F', k2, _⟩ => ⟨k1, F', k2.congr pick0⟩
theorem hdU32 (h : WsF w0 w p (pick c [] [] [] []) F) (q : Nat) (hq : p 0 = q) (x : Int) (k : Nat) (hx : x = k) (hk : k < 4294967296) (hl : c.length ≤ 1000) :
    Calls Tryz.prog 76 #[.pointer (some ⟨q, 0, none⟩), .int .u32 x] w fun e w' => e = .returned (.tuple #[]) ∧ ∃ F', WsF w0 w' p (pick (c ++ be k 4) [] [] [] []) F' :=
  (wsU32 h 0 (by decide) q hq x k hx hk (by show c.length ≤ _; omega)).mono fun e w' ⟨k1, F', k2, _⟩ => ⟨k1, F', k2.congr pick0⟩
end
set_option maxHeartbeats 16000000 in
set_option maxRecDepth 100000 in
theorem gEncode (g : GraphP) (hg : GoodGraph g) (a : Option Addr) (c : Nat) (hc : g.rows.length ≤ c) (hcm : c ≤ maxLen) (w : World) (h : RowsAt w a g.rows) :
    Calls Tryz.prog 87 #[.agg #[.int .i64 (g.base : Nat), .int .i64 (g.set.H : Nat), .int .i64 (g.set.P : Nat), .int .i64 (g.set.M : Nat), .int .u32 (g.set.S : Nat), .slice a g.rows.length c]] w fun e w' => e = .returned (.tuple #[.string ⟨(graphB g).toArray⟩, .int .i64 0]) ∧ Below w.heap.size w w' := by
  have HCk := Lib.hid (fun W hW => gCheck g hg a c hc hcm W hW)
  have HBd := Lib.hid (fun W a2 c2 (hc2 : 5 ≤ c2) (hcm2 : c2 ≤ maxLen) hW => kBuild (chunksG g) (chunksG_rising g) rfl (chunksG_ids g) hg.small a2 c2 hc2 hcm2 W hW)
  have HL := Lib.hid (bits_le g.rows)
  have HE := Lib.hid (edges_lt g.rows)
  have hel := edges_le g.rows hg.par
  have hbl := hg.bits
  have hfew := hg.few
  have hS := hg.set.S; have hH := hg.set.H; have hP := hg.set.P; have hM := hg.set.M
  have HG := Lib.hid hg.rows
  have HFs := Lib.hid (five_start g)
  have HFn := Lib.hid (fun k => five_next g (k := k))
  have HHd := Lib.hid (show headG g = be g.base 4 ++ be g.rows.length 4 ++ be g.set.H 1 ++ be g.set.P 1 ++ be g.set.M 2 ++ be g.set.S 4 from rfl)
  have hw1 : IntKind.u32.wrap (g.base : Int) = (g.base : Int) := IntWalk.u32_in _ (by omega)
  have hw2 : IntKind.u32.wrap (g.rows.length : Int) = (g.rows.length : Int) := IntWalk.u32_in _ (by omega)
  have hw3 : IntKind.u8.wrap (g.set.H : Int) = (g.set.H : Int) := IntWalk.u8_in _ (by omega)
  have hw4 : IntKind.u8.wrap (g.set.P : Int) = (g.set.P : Int) := IntWalk.u8_in _ (by omega)
  have hw5 : IntKind.u16.wrap (g.set.M : Int) = (g.set.M : Int) := IntWalk.u16_in _ (by omega)
  obtain ⟨W1, hW1⟩ : ∃ W1, w.alloc (.cells #[.int .i64 (g.base : Nat), .int .i64 (g.set.H : Nat), .int .i64 (g.set.P : Nat), .int .i64 (g.set.M : Nat), .int .u32 (g.set.S : Nat), .slice a g.rows.length c] 103) = W1 := ⟨_, rfl⟩
  have hb1 : Below w.heap.size w W1 := by rw [← hW1]; exact bl_alloc (Below.refl _ w) _
  have q0 : W1.cell? ⟨w.heap.size, 0, none⟩ = some (.int .i64 (g.base : Nat)) := by rw [← hW1, World.cell?_alloc_new]; rfl
  have q1 : W1.cell? ⟨w.heap.size, 1, none⟩ = some (.int .i64 (g.set.H : Nat)) := by rw [← hW1, World.cell?_alloc_mark]; rfl
  have q2 : W1.cell? ⟨w.heap.size, 2, none⟩ = some (.int .i64 (g.set.P : Nat)) := by rw [← hW1, World.cell?_alloc_mark]; rfl
  have q3 : W1.cell? ⟨w.heap.size, 3, none⟩ = some (.int .i64 (g.set.M : Nat)) := by rw [← hW1, World.cell?_alloc_mark]; rfl
  have q4 : W1.cell? ⟨w.heap.size, 4, none⟩ = some (.int .u32 (g.set.S : Nat)) := by rw [← hW1, World.cell?_alloc_mark]; rfl
  have q5 : W1.cell? ⟨w.heap.size, 5, none⟩ = some (.slice a g.rows.length c) := by rw [← hW1, World.cell?_alloc_mark]; rfl
  have HQ := Lib.hid (show (∀ W, Below W1.heap.size W1 W → W.cell? ⟨w.heap.size, 0, none⟩ = some (.int .i64 (g.base : Nat)) ∧ W.cell? ⟨w.heap.size, 1, none⟩ = some (.int .i64 (g.set.H : Nat)) ∧ W.cell? ⟨w.heap.size, 2, none⟩ = some (.int .i64 (g.set.P : Nat)) ∧ W.cell? ⟨w.heap.size, 3, none⟩ = some (.int .i64 (g.set.M : Nat)) ∧ W.cell? ⟨w.heap.size, 4, none⟩ = some (.int .u32 (g.set.S : Nat)) ∧ W.cell? ⟨w.heap.size, 5, none⟩ = some (.slice a g.rows.length c)) from fun W hW => ⟨bl_cell hW q0, bl_cell hW q1, bl_cell hW q2, bl_cell hW q3, bl_cell hW q4, bl_cell hW q5⟩)
  have HR := Lib.hid (h.below hb1)
  have HB1 := Lib.hid hb1
  have HW1 := Lib.hid hW1
  clear h hW1 hb1 hg
  go_enter Tryz.func87, Tryz.ntmps87
  go_wp2_with fail
  rw [HW1.out]
  go_wp2_with fail
  (with_reducible refine (HCk.out W1 HR.out).mono ?_)
  rintro e w2 ⟨rfl, hb⟩
  have HB2 := Lib.hid hb
  have HR2 := Lib.hid (HR.out.below hb)
  obtain ⟨s0, s1, s2, s3, s4, s5⟩ := HQ.out w2 hb
  clear hb q0 q1 q2 q3 q4 q5
  go_wp2_with fail
  (with_reducible refine (wrNew w2).mono ?_)
  rintro e w3 ⟨rfl, ⟨F0, a0, a1⟩, a2, -⟩
  have A0 := Lib.hid a0; have A1 := Lib.hid a1; have A2 := Lib.hid a2
  clear a0 a1 a2
  go_wp2_with fail
  (with_reducible refine (wrNew w3).mono ?_)
  rintro e w4 ⟨rfl, ⟨F1, a0, a1⟩, a2, -⟩
  have B0 := Lib.hid a0; have B1 := Lib.hid a1; have B2 := Lib.hid a2
  clear a0 a1 a2
  go_wp2_with fail
  (with_reducible refine (wrNew w4).mono ?_)
  rintro e w5 ⟨rfl, ⟨F2, a0, a1⟩, a2, -⟩
  have C0 := Lib.hid a0; have C1 := Lib.hid a1; have C2 := Lib.hid a2
  clear a0 a1 a2
  go_wp2_with fail
  (with_reducible refine (wrNew w5).mono ?_)
  rintro e w6 ⟨rfl, ⟨F3, a0, a1⟩, a2, -⟩
  have D0 := Lib.hid a0; have D1 := Lib.hid a1; have D2 := Lib.hid a2
  clear a0 a1 a2
  go_wp2_with fail
  (with_reducible refine (wrNew w6).mono ?_)
  rintro e w7 ⟨rfl, ⟨F4, a0, a1⟩, a2, -⟩
  have hw := WsF.made A0.out A1.out A2.out B0.out B1.out B2.out C0.out C1.out C2.out D0.out D1.out D2.out a0 a1 a2
  clear a0 a1 a2
  obtain ⟨p0, hp0⟩ : ∃ p, w2.heap.size = p := ⟨_, rfl⟩
  obtain ⟨p1, hp1⟩ : ∃ p, w3.heap.size = p := ⟨_, rfl⟩
  obtain ⟨p2, hp2⟩ : ∃ p, w4.heap.size = p := ⟨_, rfl⟩
  obtain ⟨p3, hp3⟩ : ∃ p, w5.heap.size = p := ⟨_, rfl⟩
  obtain ⟨p4, hp4⟩ : ∃ p, w6.heap.size = p := ⟨_, rfl⟩
  rw [hp0, hp1, hp2, hp3, hp4] at hw
  rw [hp0, hp1, hp2, hp3, hp4]
  have HW7 := Lib.hid hw
  have HBx := Lib.hid (show ∀ W, Below w2.heap.size w2 W → Below W1.heap.size W1 W from fun W hW => bl_trans HB2.out hW)
  obtain ⟨y0, y1, y2, y3, y4, y5⟩ := HQ.out w7 (HBx.out w7 hw.bel)
  clear hw hp0 hp1 hp2 hp3 hp4 A0 A1 A2 B0 B1 B2 C0 C1 C2 D0 D1 D2 s0 s1 s2 s3 s4 s5
  go_wp2_with fail
  (with_reducible refine (hdU32 HW7.out p0 rfl _ g.base rfl (by omega) (by decide)).mono ?_)
  rintro e w8 ⟨rfl, G0, hw⟩
  have HW8 := Lib.hid hw
  clear y0 y1 y2 y3 y4 y5
  obtain ⟨y0, y1, y2, y3, y4, y5⟩ := HQ.out w8 (HBx.out w8 hw.bel)
  clear hw
  go_wp2_with fail
  (with_reducible refine (hdU32 HW8.out p0 rfl _ g.rows.length rfl (by omega) (by simp only [List.length_append, be_length, List.length_nil]; omega)).mono ?_)
  rintro e w9 ⟨rfl, G1, hw⟩
  have HW9 := Lib.hid hw
  clear y0 y1 y2 y3 y4 y5
  obtain ⟨y0, y1, y2, y3, y4, y5⟩ := HQ.out w9 (HBx.out w9 hw.bel)
  clear hw
  go_wp2_with fail
  (with_reducible refine (hdU8 HW9.out p0 rfl _ g.set.H rfl (by omega) (by simp only [List.length_append, be_length, List.length_nil]; omega)).mono ?_)
  rintro e w10 ⟨rfl, G2, hw⟩
  have HW10 := Lib.hid hw
  clear y0 y1 y2 y3 y4 y5
  obtain ⟨y0, y1, y2, y3, y4, y5⟩ := HQ.out w10 (HBx.out w10 hw.bel)
  clear hw
  go_wp2_with fail
  (with_reducible refine (hdU8 HW10.out p0 rfl _ g.set.P rfl (by omega) (by simp only [List.length_append, be_length, List.length_nil]; omega)).mono ?_)
  rintro e w11 ⟨rfl, G3, hw⟩
  have HW11 := Lib.hid hw
  clear y0 y1 y2 y3 y4 y5
  obtain ⟨y0, y1, y2, y3, y4, y5⟩ := HQ.out w11 (HBx.out w11 hw.bel)
  clear hw
  go_wp2_with fail
  (with_reducible refine (hdU16 HW11.out p0 rfl _ g.set.M rfl (by omega) (by simp only [List.length_append, be_length, List.length_nil]; omega)).mono ?_)
  rintro e w12 ⟨rfl, G4, hw⟩
  have HW12 := Lib.hid hw
  clear y0 y1 y2 y3 y4 y5
  obtain ⟨y0, y1, y2, y3, y4, y5⟩ := HQ.out w12 (HBx.out w12 hw.bel)
  clear hw
  go_wp2_with fail
  (with_reducible refine (hdU32 HW12.out p0 rfl _ g.set.S rfl (by omega) (by simp only [List.length_append, be_length, List.length_nil]; omega)).mono ?_)
  rintro e w13 ⟨rfl, G5, hw⟩
  have HW13 := Lib.hid (show WsF w2 w13 (pick p0 p1 p2 p3 p4) (fiveB g 0) G5 by
    refine hw.congr fun i hi => ?_
    rw [← HFs.out i hi, HHd.out, List.nil_append])
  clear y0 y1 y2 y3 y4 y5
  obtain ⟨y0, y1, y2, y3, y4, y5⟩ := HQ.out w13 (HBx.out w13 hw.bel)
  clear hw HW7 HW8 HW9 HW10 HW11 HW12
  go_wp2
  go_loopw [56] (fun iv wr => ∃ (k : Nat) (F : Nat → Foot), k ≤ g.rows.length ∧ iv = .int .i64 k ∧ WsF w2 wr (pick p0 p1 p2 p3 p4) (fiveB g k) F) (fun iv _ => g.rows.length - (intOf iv).toNat)
  case atStart => exact ⟨0, G5, Nat.zero_le _, rfl, HW13.out⟩
  case round =>
    obtain ⟨k, F, hk, rfl, hws⟩ := hrel
    have HW := Lib.hid hws
    clear hws y0 y1 y2 y3 y4 y5
    by_cases hlt : k < g.rows.length
    · obtain ⟨b, off, pa, pc, hae, hbl, x0, x1, x2, x3, x4, hca, hpc1, hpc2, _⟩ := HR2.out.get hlt
      have hgr := HG.out k hlt
      have HFN := Lib.hid (HFn.out k hlt)
      have hrb : (rowsB (g.rows.take k) 0).length ≤ 1000000 := by rw [rowsB_len, List.length_take]; omega
      have heb : (edgesB (g.rows.take k)).length ≤ 1000000 := by have := HE.out k; omega
      have hbb := HL.out k; have hbb2 := HL.out (k + 1)
      have hbt := bits_take hlt
      obtain ⟨x, hx⟩ : ∃ x, g.rows[k] = x := ⟨_, rfl⟩
      rw [hx] at x0 x1 x2 x3 x4 hca hpc1 hgr HFN hbt
      have hbs := congrArg List.length hbt
      rw [List.length_append, size_list] at hbs
      obtain ⟨L1, hL1⟩ : ∃ n, (bitsB (g.rows.take (k + 1))).length = n := ⟨_, rfl⟩
      rw [hL1] at HFN hbb2 hbs
      have hlen4 : (bitsB (g.rows.take k) ++ x.bits.data.toList).length = L1 := by rw [← hbt, hL1]
      have HLen4 := Lib.hid hlen4
      have hbs1 : (bitsB (g.rows.take k)).length + x.bits.size ≤ 3000000 := by omega
      have hwL : IntKind.u32.wrap (L1 : Int) = (L1 : Int) := IntWalk.u32_in _ (by omega)
      have hdL : decide ((L1 : Int) > 4194304) = false := by simp; omega
      have hdL2 : decide (4194304 < L1) = false := by simp; omega
      have hbel := HW.out.bel
      have r0 := bl_cell hbel x0; have r1 := bl_cell hbel x1; have r2 := bl_cell hbel x2; have r3 := bl_cell hbel x3; have r4 := bl_cell hbel x4
      obtain ⟨W2, hW2⟩ : ∃ W2, wr.alloc (.cells #[.slice pa x.parents.length pc, .int .i64 (x.tree : Nat), .int .i64 (x.gen : Nat), .int .i64 (x.st : Nat), .string x.bits] 188) = W2 := ⟨_, rfl⟩
      have t0 : W2.cell? ⟨wr.heap.size, 0, none⟩ = some (.slice pa x.parents.length pc) := by rw [← hW2, World.cell?_alloc_new]; rfl
      have t1 : W2.cell? ⟨wr.heap.size, 1, none⟩ = some (.int .i64 (x.tree : Nat)) := by rw [← hW2, World.cell?_alloc_mark]; rfl
      have t2 : W2.cell? ⟨wr.heap.size, 2, none⟩ = some (.int .i64 (x.gen : Nat)) := by rw [← hW2, World.cell?_alloc_mark]; rfl
      have t3 : W2.cell? ⟨wr.heap.size, 3, none⟩ = some (.int .i64 (x.st : Nat)) := by rw [← hW2, World.cell?_alloc_mark]; rfl
      have t4 : W2.cell? ⟨wr.heap.size, 4, none⟩ = some (.string x.bits) := by rw [← hW2, World.cell?_alloc_mark]; rfl
      have hb2 : Below wr.heap.size wr W2 := by rw [← hW2]; exact bl_alloc (Below.refl _ wr) _
      have HN1 := Lib.hid (HW.out.not (i := 1) (by decide)); have HN2 := Lib.hid (HW.out.not (i := 2) (by decide))
      have HWa := Lib.hid (HW.out.thenB hb2)
      have hwsz : wr.heap.size < W2.heap.size := World.block_lt_of_cell? W2 _ t4
      have HRow := Lib.hid (wsRow HWa.out p1 p2 rfl rfl hrb heb x (g.base + k) (by omega) hgr pa pc hpc1 hpc2 hca)
      have HT4 := Lib.hid t4
      have HW2 := Lib.hid hW2
      rw [hae]
      clear hx hW2 hb2 hca hgr hbt hL1 hlen4 hbs hbel x0 x1 x2 x3 x4
      go_wp2_with fail
      rw [HW2.out]
      go_wp2_with fail
      (with_reducible refine HRow.out.mono ?_)
      rintro e w14 ⟨rfl, F', hw, hu⟩
      have HWb := Lib.hid hw
      have u4 : w14.cell? ⟨wr.heap.size, 4, none⟩ = some (.string x.bits) := by
        rw [World.cell?_of_block (hu.block wr.heap.size hwsz (fun e => e.elim HN1.out HN2.out))]
        exact HT4.out
      clear hw hu t0 t1 t2 t3 t4 r0 r1 r2 r3 r4
      go_wp2_with fail
      (with_reducible refine (wsRaw HWb.out 4 (by decide) p4 rfl x.bits ?h1).mono ?_)
      case h1 => show (bitsB (g.rows.take k)).length + x.bits.size ≤ 1000000000; omega
      rintro e w15 ⟨rfl, F2', hw, -⟩
      have HWc := Lib.hid hw
      clear hw u4
      go_wp2_with fail
      (with_reducible refine (wsLen HWc.out 4 (by decide) p4 rfl L1 ?h2).mono ?_)
      case h2 => exact HLen4.out
      rintro e w16 ⟨rfl, rfl⟩
      go_wp2_with fail
      (with_reducible refine (wsU32 HWc.out 3 (by decide) p3 rfl _ L1 rfl (by omega) ?h3).mono ?_)
      case h3 => show (endsB (g.rows.take k) 0).length ≤ 1000000000; rw [endsB_len, List.length_take]; omega
      rintro e w17 ⟨rfl, F3', hw, -⟩
      have HWd := Lib.hid hw
      clear hw
      go_wp2_with fail
      (with_reducible refine (wsLen HWd.out 4 (by decide) p4 rfl L1 ?h4).mono ?_)
      case h4 => exact HLen4.out
      rintro e w18 ⟨rfl, rfl⟩
      go_wp2
      go_roundw
      case rel => exact ⟨k + 1, F3', by omega, by go_num, HWd.out.congr HFN.out⟩
      case measure => simp [intOf]; omega
    · have hkl : k = g.rows.length := by omega
      subst hkl
      have HWe := Lib.hid (show WsF w2 wr (pick p0 p1 p2 p3 p4) (pick (headG g) (rowsB g.rows 0) (edgesB g.rows) (endsB g.rows 0) (bitsB g.rows)) F by
        have := HW.out
        unfold fiveB at this
        rwa [List.take_of_length_le (Nat.le_refl _)] at this)
      have HB0 := Lib.hid (wsBytes HWe.out 0 (by decide) p0 rfl (headG g) rfl)
      have HB1' := Lib.hid (wsBytes HWe.out 1 (by decide) p1 rfl (rowsB g.rows 0) rfl)
      have HB2' := Lib.hid (wsBytes HWe.out 2 (by decide) p2 rfl (edgesB g.rows) rfl)
      have HB3' := Lib.hid (wsBytes HWe.out 3 (by decide) p3 rfl (endsB g.rows 0) rfl)
      have HB4' := Lib.hid (wsBytes HWe.out 4 (by decide) p4 rfl (bitsB g.rows) rfl)
      clear HW
      go_wp2_with fail
      (with_reducible refine HB0.out.mono ?_)
      rintro e v1 ⟨rfl, rfl⟩
      go_wp2_with fail
      (with_reducible refine HB1'.out.mono ?_)
      rintro e v1 ⟨rfl, rfl⟩
      go_wp2_with fail
      (with_reducible refine HB2'.out.mono ?_)
      rintro e v1 ⟨rfl, rfl⟩
      go_wp2_with fail
      (with_reducible refine HB3'.out.mono ?_)
      rintro e v1 ⟨rfl, rfl⟩
      go_wp2_with fail
      (with_reducible refine HB4'.out.mono ?_)
      rintro e v1 ⟨rfl, rfl⟩
      go_wp2_with fail
      obtain ⟨Wn, hWn⟩ : ∃ Wn, wr.alloc (.cells #[.int .u32 1, .string ⟨(headG g).toArray⟩, .int .u32 2, .string ⟨(rowsB g.rows 0).toArray⟩, .int .u32 3, .string ⟨(edgesB g.rows).toArray⟩, .int .u32 4, .string ⟨(endsB g.rows 0).toArray⟩, .int .u32 5, .string ⟨(bitsB g.rows).toArray⟩] 243) = Wn := ⟨_, rfl⟩
      have hcn : CellsAt Wn (some ⟨wr.heap.size, 0, none⟩) ((chunksG g).flatMap chunkV) := by
        rw [← hWn]
        exact cells_at_new wr ((chunksG g).flatMap chunkV) _
      have HBn := Lib.hid (show Below w.heap.size w Wn by rw [← hWn]; exact bl_alloc (bl_trans HB1.out (bl_trans HB2.out HWe.out.bel)) _)
      have HBu := Lib.hid (HBd.out Wn (some ⟨wr.heap.size, 0, none⟩) 5 (Nat.le_refl _) (by decide) hcn)
      rw [hWn]
      clear hcn hWn
      (with_reducible refine HBu.out.mono ?_)
      rintro e w14 ⟨rfl, hb⟩
      have HBz := Lib.hid (bl_trans HBn.out hb)
      clear hb
      go_wp2
      go_ret2
      exact ⟨rfl, HBz.out⟩
end Go.Proofs.YtbhfbdcmamodcaaGreatDoor
