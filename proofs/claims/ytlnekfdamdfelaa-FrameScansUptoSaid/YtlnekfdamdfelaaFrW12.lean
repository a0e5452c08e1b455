/- Walk of layer 7: scanned. -/
import Derived.RangeFuncBox
import Derived.Test.YtlnekfdamdfelaaFrW7
import Derived.Test.YtlnekfdamdfelaaFrW11
import Derived.Test.YtlnekfdamdfelaaQuietR
set_option linter.unusedVariables false
set_option linter.unusedSimpArgs false
namespace Go.Proofs.Ytlnekfdamdfelaa
open Go.RowKit Go.Shelf PackMath SumMath FrMath
attribute [local go_sem] Oper.semAt_some

theorem scan_lies {S : ByteArray} {W W' : World} {r : Ending} (h : ScanSaid S W r W') : ∃ a c, r = .returned (.tuple #[.slice a (scanR S).1.length c, .int .i64 ((scanR S).2.1 : Nat), .int .i64 ((scanR S).2.2 : Nat)]) ∧ FrsAt W' a (scanR S).1 ∧ Below W.heap.size W W' := by
  obtain ⟨v, rfl, hc⟩ := h
  obtain ⟨a, c, rfl, hf, _, _⟩ := frs_row hc.row
  exact ⟨a, c, rfl, hf, hc.bel⟩
theorem sameF_len (w : World) (l : List (Int × ByteArray)) (hl : l.length ≤ 1099511627776) (a b : Option Addr) (c d : Nat) (h : FrsAt w a l) (k : FrsAt w b l) :
    Calls Try.prog 18 #[.slice a l.length c, .slice b l.length d] w fun e w' => e = .returned (.bool true) ∧ ∃ n, w' = w.drewN n := rSameF w l a b c d hl h k

/-- The world between two ranges: the result's box, the list's, the text's, the frames. -/
structure ScAt (w W : World) (S : ByteArray) (b : Option Addr) (d B6 B9 : Nat) : Prop where
  rc : W.cell? ⟨w.heap.size, 0, none⟩ = some (.bool false)
  rf : W.frozen? ⟨w.heap.size, 0, none⟩ = false
  mc : W.cell? ⟨B6, 0, none⟩ = some (.slice b (scanR S).1.length d)
  tc : W.cell? ⟨B9, 0, none⟩ = some (.string S)
  fr : FrsAt W b (scanR S).1
  l6 : B6 < W.heap.size
  l9 : B9 < W.heap.size
  lr : w.heap.size < W.heap.size
  bel : Below w.heap.size w W
theorem ScAt.below {w W W' : World} {S : ByteArray} {b : Option Addr} {d B6 B9 : Nat} (h : ScAt w W S b d B6 B9) (hb : Below W.heap.size W W') : ScAt w W' S b d B6 B9 :=
  ⟨(hb.cell (p := ⟨w.heap.size, 0, none⟩) h.lr).trans h.rc, (hb.frozen (p := ⟨w.heap.size, 0, none⟩) h.lr).trans h.rf, (hb.cell (p := ⟨B6, 0, none⟩) h.l6).trans h.mc, (hb.cell (p := ⟨B9, 0, none⟩) h.l9).trans h.tc, h.fr.below hb,
   Nat.lt_of_lt_of_le h.l6 hb.size, Nat.lt_of_lt_of_le h.l9 hb.size, Nat.lt_of_lt_of_le h.lr hb.size, bl_trans h.bel hb⟩
theorem ScAt.start {w w2 w3 : World} {S : ByteArray} {b : Option Addr} {d nn : Nat} (hb1 : Below (w.alloc (.cells #[.bool false] 4)).heap.size (w.alloc (.cells #[.bool false] 4)) w2) (hb2 : Below w2.heap.size w2 w3) (hf : FrsAt w3 b (scanR S).1) :
    ScAt w (((w3.alloc (.cells #[.slice b (scanR S).1.length d] 39)).drewN nn).alloc (.cells #[.string S] 9)) S b d w3.heap.size (w3.heap.size + 1) := by
  have hz : ((w3.alloc (.cells #[.slice b (scanR S).1.length d] 39)).drewN nn).heap.size = w3.heap.size + 1 := World.size_alloc _ _
  have h3 : Below w3.heap.size w3 (((w3.alloc (.cells #[.slice b (scanR S).1.length d] 39)).drewN nn).alloc (.cells #[.string S] 9)) :=
    (below_drewN ((Below.refl _ w3).alloc (Nat.le_refl _) _) nn).alloc (by rw [hz]; omega) _
  have h1 : Below (w.alloc (.cells #[.bool false] 4)).heap.size (w.alloc (.cells #[.bool false] 4)) (((w3.alloc (.cells #[.slice b (scanR S).1.length d] 39)).drewN nn).alloc (.cells #[.string S] 9)) := bl_trans (bl_trans hb1 hb2) h3
  have hr := Boxed.new w 4 (.bool false)
  have hm := Boxed.new w3 39 (.slice b (scanR S).1.length d)
  have ht := Boxed.new ((w3.alloc (.cells #[.slice b (scanR S).1.length d] 39)).drewN nn) 9 (.string S)
  rw [hz] at ht
  have hs := h1.size
  rw [World.size_alloc] at hs
  refine ⟨(h1.cell (p := ⟨w.heap.size, 0, none⟩) hr.lt).trans hr.cell, (h1.frozen (p := ⟨w.heap.size, 0, none⟩) hr.lt).trans hr.frozen, ?_, ht.cell, hf.below h3, ?_, ht.lt, by omega, (bl_alloc (Below.refl _ w) _).trans (h1.mono (by simp))⟩
  · have hm2 : Boxed ((w3.alloc (.cells #[.slice b (scanR S).1.length d] 39)).drewN nn) w3.heap.size 39 (.slice b (scanR S).1.length d) := hm
    exact (hm2.alloc _).cell
  · have := ht.lt; omega

/-- The box of a frame. -/
def FBx (W : World) (B : Nat) (f : Int × ByteArray) : Prop := W.cell? ⟨B, 0, none⟩ = some (.int .i64 f.1) ∧ W.cell? ⟨B, 1, none⟩ = some (.string f.2)
theorem FBx.new (W : World) (f : Int × ByteArray) : FBx (W.alloc (.cells #[.int .i64 f.1, .string f.2] 25)) W.heap.size f :=
  ⟨by rw [World.cell?_alloc_new]; rfl, by rw [World.cell?_alloc_mark]; rfl⟩

/-- Between two rounds of the range: how many have come; where the next one stands. -/
structure RoundsI (W0 W : World) (L : List (Int × ByteArray)) (pre : List Nat) : Prop where
  at_ : pre = List.range pre.length
  i : Boxed W W0.heap.size 3 (.int .i64 (pre.length : Nat))
  p : Boxed W (W0.heap.size + 1) 3 (.int .i64 (posF L pre.length : Nat))
  bel : Below W0.heap.size W0 W
theorem rounds_own {W0 : World} {L : List (Int × ByteArray)} {B : Nat} (hB : W0.heap.size ≤ B) : OwnFrom B (fun pre W => RoundsI W0 W L pre) := fun pre X Y row hs hg hr =>
  ⟨hs.at_, boxed_own _ _ (fun (_ : Unit) => Value.int .i64 (pre.length : Nat)) () X Y row hs.i hg (fun r e => (hr r e).2), boxed_own _ _ (fun (_ : Unit) => Value.int .i64 (posF L pre.length : Nat)) () X Y row hs.p hg (fun r e => (hr r e).2),
   ownFrom_below (β := Unit) (Nat.le_refl _) hB () X Y row hs.bel hg hr⟩
/-- What a round's frame is. -/
def RoundAx (W0 : World) (L : List (Int × ByteArray)) (T : Array Value) (x : Nat) (a' : Act) (W : World) : Prop :=
  ∃ Bx, W0.heap.size + 1 < Bx ∧ FBx W Bx (frAt L x) ∧ a' = { tmps := (((T.setIfInBounds 47 (.int .i64 (posF L x : Nat))).setIfInBounds 48 (.agg #[.int .i64 (frAt L x).1, .string (frAt L x).2])).setIfInBounds 12 (.int .i64 (posF L x : Nat))).setIfInBounds 13 (.pointer (some ⟨Bx, 0, none⟩)), defers := [] }
theorem roundAx_own {W0 : World} {L : List (Int × ByteArray)} {T : Array Value} {B : Nat} (x : Nat) (a' : Act) : OwnFrom B (fun (_ : Unit) W => RoundAx W0 L T x a' W) := fun _ X Y row hs hg hr => by
  obtain ⟨Bx, h1, ⟨h2, h3⟩, h4⟩ := hs
  exact ⟨Bx, h1, ⟨cell_kept h2 hg (fun r e => (hr r e).2), cell_kept h3 hg (fun r e => (hr r e).2)⟩, h4⟩
theorem range_not {pre : List Nat} {x : Nat} (h : x ≠ pre.length) : ¬ ∃ k, pre ++ [x] = List.range k := by
  rintro ⟨k, hk⟩
  have hl := congrArg List.length hk
  rw [List.length_append, List.length_range] at hl
  have h1 : (pre ++ [x])[pre.length]? = some x := by simp
  rw [hk, List.getElem?_range (by simp at hl; omega)] at h1
  exact h (by cases h1; rfl)
theorem range_snoc {pre : List Nat} (h : pre = List.range pre.length) : pre ++ [pre.length] = List.range (pre ++ [pre.length]).length := by
  rw [List.length_append, List.length_singleton, List.range_succ, ← h]

/-- At the function's return: the marks, one behind the other. -/
theorem leaves_marks {n : Nat} {P : Program} {fn : Func} {T : Array Value} {R : Ending → World → Prop} {w : World} (hR : ∀ W, W.cell? ⟨w.heap.size, 0, none⟩ = some (.bool true) → Below w.heap.size w W → LeavesIn Fence.wide n P fn T R [] .returning W) :
    ∀ (Ds : List Nat) (W : World), Ds.Nodup → (∀ D ∈ Ds, w.heap.size < D ∧ W.heap[D]? = some (.deferred (some []))) → W.cell? ⟨w.heap.size, 0, none⟩ = some (.bool true) → Below w.heap.size w W →
    LeavesInM Fence.wide n P fn T R (Ds.map fun D => { target := .collected D, args := #[] }) .returning W
  | [], W, _, _, hc, hb => hR W hc hb
  | D :: Ds, W, hn, hm, hc, hb => by
    obtain ⟨hD, hK⟩ := hm D (List.mem_cons_self)
    obtain ⟨hno, hn2⟩ := List.nodup_cons.1 hn
    refine ⟨by simp, .inl ⟨D, _, rfl, run_takeDeferred hK, leaves_marks hR Ds _ hn2 (fun E hE => ⟨(hm E (List.mem_cons_of_mem _ hE)).1, ?_⟩) ?_ ?_⟩⟩
    · rw [World.putObj_heap_other (fun e => hno (by rw [← e]; exact hE))]
      exact (hm E (List.mem_cons_of_mem _ hE)).2
    · exact cell_kept hc (grownBy_putObj' W D (.deferred none)) (fun r e => by cases e; exact ⟨_, hK, rfl⟩)
    · exact hb.trans (belowK_b (w := w) (Nat.le_refl _) W D _ _ (Nat.le_of_lt hD) hK rfl rfl)

set_option maxRecDepth 100000 in
set_option maxHeartbeats 4000000 in
theorem scannedIs (S : ByteArray) (hs : S.size ≤ 1099511627776) (w : World) : Calls Try.prog 20 #[.string S] w fun e w' => e = .returned (.bool true) ∧ Below w.heap.size w w' := by
  have HS1 := Lib.hid (fun W => (fScan S hs W).mono fun r W' h => scan_lies h)
  have HS2 := Lib.hid (fun W => (xScan S hs W).mono fun r W' h => scan_lies h)
  have hll := scan_len S
  have hnil : ∀ (p : Nat) (W : World), (binOp BinOp.eql 67 (.func (.func 43) #[] #[.pointer (some ⟨p, 0, none⟩)]) .nilFunc).run Try.prog W = .ok (.bool false) W := fun _ _ => by kernel_rfl
  refine (callsIn_wide (n := 6)).1 ?_
  refine callsIn_of_wp_marks Try.func20 rfl trivial ?_ rfl
  simp only [Try.ntmps20, List.size_toArray, List.length_cons, List.length_nil, Nat.reduceAdd, Nat.reduceSub, Array.replicate_succ, Array.replicate_zero, List.push_toArray, List.append_toArray, List.nil_append, List.cons_append]
  gi_wp2_with (first
    | (refine ⟨trivial, ?_⟩; gi_at_call 17; refine (callsIn_wide.2 (HS1.out _)).mono ?_; rintro r w2 ⟨a1, c1, rfl, hf1, hb1⟩)
    | (refine ⟨trivial, ?_⟩; gi_at_call 33; refine (callsIn_wide.2 (HS2.out _)).mono ?_; rintro r w3 ⟨b, d, rfl, hf2, hb2⟩)
    | (refine ⟨trivial, ?_⟩; gi_at_call 18; refine (callsIn_wide.2 (sameF_len _ _ (by omega) a1 b c1 d ((hf1.below hb2).below (bl_alloc (Below.refl _ w3) _)) (hf2.below (bl_alloc (Below.refl _ w3) _)))).mono ?_; rintro r w4 ⟨rfl, nn, rfl⟩)
    | (refine ⟨trivial, ?_⟩; gi_at_call 34; refine (callsIn_wide.2 (fEach S _)).mono ?_; rintro r w5 ⟨rfl, rfl⟩))
  have SC0 := Lib.hid (ScAt.start (d := d) (nn := nn) hb1 hb2 hf2)
  clear hf1 hf2 hb1 hb2 HS1 HS2 hnil
  generalize (((w3.alloc (.cells #[.slice b (scanR S).1.length d] 39)).drewN nn).alloc (.cells #[.string S] 9)) = W0 at *
  generalize w3.heap.size = B6 at *
  refine wpIn_loop_rounds 3 ?_
  rw [roundsIn_succ]
  have HW0 : Below W0.heap.size W0 ((W0.alloc (.cells #[.int .i64 0] 3)).alloc (.cells #[.int .i64 0] 3)) := ((Below.refl _ W0).alloc (Nat.le_refl _) _).alloc (by simp) _
  have bi0 := (Boxed.new W0 3 (.int .i64 0)).alloc (.cells #[.int .i64 0] 3)
  have bp0 := Boxed.new (W0.alloc (.cells #[.int .i64 0] 3)) 3 (.int .i64 0)
  rw [World.size_alloc] at bp0
  have hz0 : ((W0.alloc (.cells #[.int .i64 0] 3)).alloc (.cells #[.int .i64 0] 3)).heap.size = W0.heap.size + 2 := by simp
  gi_wp2
  refine range_T (by decide) rfl (enters_of Try.func43 (by kernel_rfl) rfl)
    (fEach_stops S hs (6 - 1) (by decide) (B6 + 1) W0.heap.size SC0.out.l9 _ (by rw [hz0]; omega) (SC0.out.below HW0).tc) belowK_t (belowK_b (by rw [hz0]; omega)) (Below.refl _ _) (fun _ => rfl)
    (fun pre W => RoundsI W0 W (scanR S).1 pre) (fun _ pre _ => ¬ ∃ k, pre = List.range k) (rounds_own (by rw [hz0]; omega)) (fun _ _ _ _ _ hs _ _ => hs)
    ⟨rfl, bi0, bp0, HW0⟩ (RoundAx W0 (scanR S).1) roundAx_own ?assign0 ?body0 ?done0 ?stop0
  case assign0 =>
    rintro l pre x W K hI hK
    unfold encE
    gi_wp2
    have hsz := hI.bel.size
    have hlt := hI.p.lt
    exact hK _ _ ((KeepsOthers.alloc _ _).from _) ((Below.refl _ W).alloc hsz _) ⟨hI.at_, hI.i.alloc _, hI.p.alloc _, hI.bel.alloc hsz _⟩ ⟨W.heap.size, hlt, FBx.new W _, rfl⟩
  case body0 =>
    rintro l pre x a' W hl ⟨r, hr⟩ hI ⟨Bx, hBx, ⟨f0, f1⟩, rfl⟩ hlt
    simp only [List.setIfInBounds_toArray, List.set_cons_zero, List.set_cons_succ]
    have c0 := hI.i.cell
    have c1 := hI.p.cell
    have z0 := hI.i.frozen
    have z1 := hI.p.frozen
    have HSW := SC0.out.below hI.bel
    have c6 := HSW.mc
    have hcl : decide (((scanR S).1.length : Int) ≤ (pre.length : Int)) = false := by simp; omega
    have hcl2 : decide ((scanR S).1.length ≤ pre.length) = false := by simp; omega
    obtain ⟨bb, oo, hbo, p1, p2⟩ := HSW.fr pre.length hlt
    by_cases hx : x = pre.length
    · subst hx
      rw [← frAt_get hlt] at p1 p2
      have hsn := range_snoc hI.at_
      have hpn : posF (scanR S).1 (pre.length + 1) = posF (scanR S).1 pre.length + ((frAt (scanR S).1 pre.length).2.size + 9) := rfl
      have hpl := (scan_walk S (pre.length + 1) hlt).1
      subst hbo
      generalize frAt (scanR S).1 pre.length = ff at *
      obtain ⟨fk, fb⟩ := ff
      gi_wp2
      refine quiet_round (by kernel_rfl) (by kernel_rfl) (by kernel_rfl) ?_
      repeat (gi_big_quiet_step (fail))
      refine wpQuietIn_nil ?_
      intro _ hw'
      obtain ⟨nq, hw''⟩ := hw'
      subst hw''
      gi_wp2
      have hkd : KeepsOthers W (W.drewN nq) := ⟨Nat.le_refl _, fun _ _ h _ => h⟩
      have q1 : Boxed (W.drewN nq) W0.heap.size 3 (.int .i64 (pre.length : Nat)) := hI.i
      have q2 : Boxed (W.drewN nq) (W0.heap.size + 1) 3 (.int .i64 (posF (scanR S).1 pre.length : Nat)) := hI.p
      have hbw : Below W0.heap.size W (((W.drewN nq).setCell ⟨W0.heap.size + 1, 0, none⟩ (.int .i64 (posF (scanR S).1 (pre.length + 1) : Nat))).setCell ⟨W0.heap.size, 0, none⟩ (.int .i64 ((pre.length + 1 : Nat) : Int))) :=
        ((below_drewN (Below.refl _ W) nq).setCell (p := ⟨W0.heap.size + 1, 0, none⟩) (Nat.le_succ _) _).setCell (p := ⟨W0.heap.size, 0, none⟩) (Nat.le_refl _) _
      have hpe : (posF (scanR S).1 pre.length : Int) + ((fb.size : Int) + 9) = ((posF (scanR S).1 (pre.length + 1) : Nat) : Int) := by rw [hpn]; simp
      have hfin : ownPostG ((W0.alloc (.cells #[.int .i64 0] 3)).alloc (.cells #[.int .i64 0] 3)).heap.size (Below W0.heap.size) (fun pre W => RoundsI W0 W (scanR S).1 pre) (fun _ pre _ => ¬ ∃ k, pre = List.range k) (pre ++ [pre.length]) W .normal { tmps := #[], defers := [] } (((W.drewN nq).setCell ⟨W0.heap.size + 1, 0, none⟩ (.int .i64 (posF (scanR S).1 (pre.length + 1) : Nat))).setCell ⟨W0.heap.size, 0, none⟩ (.int .i64 ((pre.length + 1 : Nat) : Int))) :=
        ⟨((hkd.trans (KeepsOthers.setCell _ _ _)).trans (KeepsOthers.setCell _ _ _)).from _, hbw, hsn, by rw [List.length_append]; exact (q1.other (Nat.ne_of_lt (Nat.lt_succ_self _)) _).set _, by rw [List.length_append]; exact (q2.set _).other (Nat.ne_of_gt (Nat.lt_succ_self _)) _, hI.bel.trans hbw⟩
      rw [← hpe] at hfin
      exact hfin
    · have hpx : (((posF (scanR S).1 x : Nat) : Int) != ((posF (scanR S).1 pre.length : Nat) : Int)) = true := by
        have := posF_ne (scanR S).1 hx
        simp; omega
      have hno := range_not hx
      have cR := HSW.rc
      have fR := HSW.rf
      gi_wp2
      refine quiet_round (by kernel_rfl) (by kernel_rfl) (by kernel_rfl) ?_
      repeat (gi_big_quiet_step (fail))
      refine wpQuietIn_nil ?_
      intro _ hw'
      obtain ⟨nq, hw''⟩ := hw'
      subst hw''
      gi_wp2
      have hkd : KeepsOthers W (W.drewN nq) := ⟨Nat.le_refl _, fun _ _ h _ => h⟩
      exact ⟨(hkd.trans (KeepsOthers.setCell _ _ _)).from _, hno⟩
  case stop0 =>
    rintro D c pre W _ h1 h2 _
    exact absurd h1 h2
  case done0 =>
    rintro D0 xs W1 hD0 rfl hI hK0
    have hil := hI.i
    have hbl0 := hI.bel
    rw [List.length_range] at hil
    have c0 := hil.cell
    have SC1 := Lib.hid (SC0.out.below hbl0)
    have c6 := SC1.out.mc
    have hDs0 : D0 < W1.heap.size := (Array.getElem?_eq_some_iff.1 hK0).1
    rw [hz0] at hD0
    have hws0 := SC0.out.lr
    clear hI hil bi0 bp0 HW0 hz0
    gi_wp2
    clear c0 c6
    rw [roundsIn_succ]
    have HW1 : Below W1.heap.size W1 ((W1.alloc (.cells #[.int .i64 0] 3)).alloc (.cells #[.int .i64 0] 3)) := ((Below.refl _ W1).alloc (Nat.le_refl _) _).alloc (by simp) _
    have bi1 := (Boxed.new W1 3 (.int .i64 0)).alloc (.cells #[.int .i64 0] 3)
    have bp1 := Boxed.new (W1.alloc (.cells #[.int .i64 0] 3)) 3 (.int .i64 0)
    rw [World.size_alloc] at bp1
    have hz1 : ((W1.alloc (.cells #[.int .i64 0] 3)).alloc (.cells #[.int .i64 0] 3)).heap.size = W1.heap.size + 2 := by simp
    gi_wp2
    refine range_T (by decide) rfl (enters_of Try.func43 (by kernel_rfl) rfl)
      (fEach_stops S hs (6 - 1) (by decide) (B6 + 1) W1.heap.size SC1.out.l9 _ (by rw [hz1]; omega) (SC1.out.below HW1).tc) belowK_t (belowK_b (by rw [hz1]; omega)) (Below.refl _ _) (fun _ => rfl)
      (fun pre W => RoundsI W1 W (scanR S).1 pre) (fun _ pre _ => ¬ ∃ k, pre = List.range k) (rounds_own (by rw [hz1]; omega)) (fun _ _ _ _ _ hs _ _ => hs)
      ⟨rfl, bi1, bp1, HW1⟩ (RoundAx W1 (scanR S).1) roundAx_own ?assign1 ?body1 ?done1 ?stop1
    case assign1 =>
      rintro l pre x W K hI hK
      unfold encE
      gi_wp2
      have hsz := hI.bel.size
      have hlt := hI.p.lt
      exact hK _ _ ((KeepsOthers.alloc _ _).from _) ((Below.refl _ W).alloc hsz _) ⟨hI.at_, hI.i.alloc _, hI.p.alloc _, hI.bel.alloc hsz _⟩ ⟨W.heap.size, hlt, FBx.new W _, rfl⟩
    case body1 =>
      rintro l pre x a' W hl ⟨r, hr⟩ hI ⟨Bx, hBx, ⟨f0, f1⟩, rfl⟩ hlt
      simp only [List.setIfInBounds_toArray, List.set_cons_zero, List.set_cons_succ]
      have c0 := hI.i.cell
      have c1 := hI.p.cell
      have z0 := hI.i.frozen
      have z1 := hI.p.frozen
      have HSW := SC1.out.below hI.bel
      have c6 := HSW.mc
      have hcl : decide (((scanR S).1.length : Int) ≤ (pre.length : Int)) = false := by simp; omega
      have hcl2 : decide ((scanR S).1.length ≤ pre.length) = false := by simp; omega
      obtain ⟨bb, oo, hbo, p1, p2⟩ := HSW.fr pre.length hlt
      by_cases hx : x = pre.length
      · subst hx
        rw [← frAt_get hlt] at p1 p2
        have hsn := range_snoc hI.at_
        have hpn : posF (scanR S).1 (pre.length + 1) = posF (scanR S).1 pre.length + ((frAt (scanR S).1 pre.length).2.size + 9) := rfl
        have hpl := (scan_walk S (pre.length + 1) hlt).1
        subst hbo
        generalize frAt (scanR S).1 pre.length = ff at *
        obtain ⟨fk, fb⟩ := ff
        gi_wp2
        refine quiet_round (by kernel_rfl) (by kernel_rfl) (by kernel_rfl) ?_
        repeat (gi_big_quiet_step (fail))
        refine wpQuietIn_nil ?_
        intro _ hw'
        obtain ⟨nq, hw''⟩ := hw'
        subst hw''
        gi_wp2
        have hkd : KeepsOthers W (W.drewN nq) := ⟨Nat.le_refl _, fun _ _ h _ => h⟩
        have q1 : Boxed (W.drewN nq) W1.heap.size 3 (.int .i64 (pre.length : Nat)) := hI.i
        have q2 : Boxed (W.drewN nq) (W1.heap.size + 1) 3 (.int .i64 (posF (scanR S).1 pre.length : Nat)) := hI.p
        have hbw : Below W1.heap.size W (((W.drewN nq).setCell ⟨W1.heap.size + 1, 0, none⟩ (.int .i64 (posF (scanR S).1 (pre.length + 1) : Nat))).setCell ⟨W1.heap.size, 0, none⟩ (.int .i64 ((pre.length + 1 : Nat) : Int))) :=
          ((below_drewN (Below.refl _ W) nq).setCell (p := ⟨W1.heap.size + 1, 0, none⟩) (Nat.le_succ _) _).setCell (p := ⟨W1.heap.size, 0, none⟩) (Nat.le_refl _) _
        have hpe : (posF (scanR S).1 pre.length : Int) + ((fb.size : Int) + 9) = ((posF (scanR S).1 (pre.length + 1) : Nat) : Int) := by rw [hpn]; simp
        have hfin : ownPostG ((W1.alloc (.cells #[.int .i64 0] 3)).alloc (.cells #[.int .i64 0] 3)).heap.size (Below W1.heap.size) (fun pre W => RoundsI W1 W (scanR S).1 pre) (fun _ pre _ => ¬ ∃ k, pre = List.range k) (pre ++ [pre.length]) W .normal { tmps := #[], defers := [] } (((W.drewN nq).setCell ⟨W1.heap.size + 1, 0, none⟩ (.int .i64 (posF (scanR S).1 (pre.length + 1) : Nat))).setCell ⟨W1.heap.size, 0, none⟩ (.int .i64 ((pre.length + 1 : Nat) : Int))) :=
          ⟨((hkd.trans (KeepsOthers.setCell _ _ _)).trans (KeepsOthers.setCell _ _ _)).from _, hbw, hsn, by rw [List.length_append]; exact (q1.other (Nat.ne_of_lt (Nat.lt_succ_self _)) _).set _, by rw [List.length_append]; exact (q2.set _).other (Nat.ne_of_gt (Nat.lt_succ_self _)) _, hI.bel.trans hbw⟩
        rw [← hpe] at hfin
        exact hfin
      · have hpx : (((posF (scanR S).1 x : Nat) : Int) != ((posF (scanR S).1 pre.length : Nat) : Int)) = true := by
          have := posF_ne (scanR S).1 hx
          simp; omega
        have hno := range_not hx
        have cR := HSW.rc
        have fR := HSW.rf
        gi_wp2
        refine quiet_round (by kernel_rfl) (by kernel_rfl) (by kernel_rfl) ?_
        repeat (gi_big_quiet_step (fail))
        refine wpQuietIn_nil ?_
        intro _ hw'
        obtain ⟨nq, hw''⟩ := hw'
        subst hw''
        gi_wp2
        have hkd : KeepsOthers W (W.drewN nq) := ⟨Nat.le_refl _, fun _ _ h _ => h⟩
        exact ⟨(hkd.trans (KeepsOthers.setCell _ _ _)).from _, hno⟩
    case stop1 =>
      rintro D c pre W _ h1 h2 _
      exact absurd h1 h2
    case done1 =>
      rintro D1 xs W2 hD1 rfl hI hK1
      have hil := hI.i
      have hbl1 := hI.bel
      rw [List.length_range] at hil
      have c0 := hil.cell
      have SC2 := Lib.hid (SC1.out.below hbl1)
      have c6 := SC2.out.mc
      have hDs1 : D1 < W2.heap.size := (Array.getElem?_eq_some_iff.1 hK1).1
      rw [hz1] at hD1
      have hws1 := SC1.out.lr
      clear hI hil bi1 bp1 HW1 hz1
      gi_wp2
      clear c0 c6
      rw [roundsIn_succ]
      gi_wp2
      refine range_T (by decide) rfl (enters_of Try.func43 (by kernel_rfl) rfl)
        (fEach_stops S hs (6 - 1) (by decide) (B6 + 1) W2.heap.size SC2.out.l9 _ (Nat.le_refl _) SC2.out.tc) belowK_t (belowK_b (Nat.le_refl _)) (Below.refl _ _) (fun _ => rfl)
        (fun _ W => Below W2.heap.size W2 W) (fun c _ W => c = .exit 4 ∧ Below W2.heap.size W2 W) (ownFrom_below (Nat.le_refl _) (Nat.le_refl _)) (fun c => OwnFrom.and (ownFrom_pure _ (fun _ => c = .exit 4)) (ownFrom_below (Nat.le_refl _) (Nat.le_refl _)))
        (Below.refl _ _) (fun T x a' _ => a' = { tmps := (T.setIfInBounds 80 (.int .i64 (posF (scanR S).1 x : Nat))).setIfInBounds 81 (.agg #[.int .i64 (frAt (scanR S).1 x).1, .string (frAt (scanR S).1 x).2]), defers := [] }) (fun _ _ _ _ _ _ hs _ _ => hs) ?assign2 ?body2 ?done2 ?stop2
      case assign2 =>
        rintro l pre x W K hI hK
        unfold encE
        gi_wp2
        refine hK _ _ (KeepsFrom.refl _ _) (Below.refl _ _) hI ?_
        simp
      case body2 =>
        rintro l pre x a' W hl _ hI rfl hlt
        simp only [List.setIfInBounds_toArray, List.set_cons_zero, List.set_cons_succ]
        gi_wp2
        exact ⟨KeepsFrom.refl _ _, rfl, hI⟩
      case done2 =>
        rintro D2 xs W3 hD2 _ hB hK2
        have cR := (SC2.out.below hB).rc
        have fR := (SC2.out.below hB).rf
        have hbb := (SC2.out.below hB).bel.setCell (p := ⟨w.heap.size, 0, none⟩) (Nat.le_refl _) (.bool true)
        have m2 := (heap_setCell_other W3 ⟨w.heap.size, 0, none⟩ _ (.bool true) (show D2 ≠ w.heap.size by omega)).trans hK2
        have m1 := (heap_setCell_other W3 ⟨w.heap.size, 0, none⟩ _ (.bool true) (show D1 ≠ w.heap.size by omega)).trans ((hB.block D1 hDs1).trans hK1)
        have m0 := (heap_setCell_other W3 ⟨w.heap.size, 0, none⟩ _ (.bool true) (show D0 ≠ w.heap.size by omega)).trans ((hB.block D0 (by omega)).trans ((hbl1.block D0 hDs0).trans hK0))
        have cT := World.cell?_setCell_same' W3 ⟨w.heap.size, 0, none⟩ (.bool true) (by rw [cR]; rfl)
        gi_wp2
        refine leaves_marks (w := w) ?_ [D2, D1, D0] _ (by simp; omega) ?_ cT hbb
        · intro W hc hb
          refine ⟨.bool true, ?_, rfl, hb⟩
          simp [results, Try.f20, go_sem, hc]
        · intro D hD
          simp only [List.mem_cons, List.not_mem_nil, or_false] at hD
          rcases hD with rfl | rfl | rfl
          · exact ⟨by omega, m2⟩
          · exact ⟨by omega, m1⟩
          · exact ⟨by omega, m0⟩
      case stop2 =>
        rintro D2 c pre W3 hD2 _ ⟨rfl, hB⟩ hK2
        have cR := (SC2.out.below hB).rc
        have fR := (SC2.out.below hB).rf
        have hbb := (SC2.out.below hB).bel.setCell (p := ⟨w.heap.size, 0, none⟩) (Nat.le_refl _) (.bool true)
        have m2 := (heap_setCell_other W3 ⟨w.heap.size, 0, none⟩ _ (.bool true) (show D2 ≠ w.heap.size by omega)).trans hK2
        have m1 := (heap_setCell_other W3 ⟨w.heap.size, 0, none⟩ _ (.bool true) (show D1 ≠ w.heap.size by omega)).trans ((hB.block D1 hDs1).trans hK1)
        have m0 := (heap_setCell_other W3 ⟨w.heap.size, 0, none⟩ _ (.bool true) (show D0 ≠ w.heap.size by omega)).trans ((hB.block D0 (by omega)).trans ((hbl1.block D0 hDs0).trans hK0))
        have cT := World.cell?_setCell_same' W3 ⟨w.heap.size, 0, none⟩ (.bool true) (by rw [cR]; rfl)
        gi_wp2
        refine leaves_marks (w := w) ?_ [D2, D1, D0] _ (by simp; omega) ?_ cT hbb
        · intro W hc hb
          refine ⟨.bool true, ?_, rfl, hb⟩
          simp [results, Try.f20, go_sem, hc]
        · intro D hD
          simp only [List.mem_cons, List.not_mem_nil, or_false] at hD
          rcases hD with rfl | rfl | rfl
          · exact ⟨by omega, m2⟩
          · exact ⟨by omega, m1⟩
          · exact ⟨by omega, m0⟩
end Go.Proofs.Ytlnekfdamdfelaa
