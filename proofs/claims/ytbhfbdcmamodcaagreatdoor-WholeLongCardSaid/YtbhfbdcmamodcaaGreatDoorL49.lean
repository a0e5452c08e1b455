/- Layer 19 (walk), walked: is one an ancestor of another?; Layer 19 (walk), walked: is one an ancestor of another?; Layer 20 (bases), walked: painting one commit; Layer 20 (bases), walked: painting one commit; Layer 20 (bases), walked: the painter and its two sets. -/
import Derived.Test.YtbhfbdcmamodcaaGreatDoorL48
import Derived.Test.YtbhfbdcmamodcaaGreatDoorL17
import Derived.Test.YtbhfbdcmamodcaaGreatDoorL14
import Derived.Maps.Own
import Derived.Maps.OwnSet
import Derived.Deep.Cut
set_option linter.unusedVariables false
set_option linter.unusedSimpArgs false
namespace Go.Proofs.YtbhfbdcmamodcaaGreatDoor
open Go.RowKit LgMath
section
variable {w w' : World} {b k : Nat} {cs : List ComP}
set_option maxHeartbeats 2000000 in
set_option maxRecDepth 100000 in
theorem aNew (h : ViewAt w b cs k) (x : Nat) (hx : x < cs.length) (ra : Option Addr) (rc : Nat) (hra : CellsAt w ra ([x].flatMap natV)) :
    Calls Tryz.prog 48 #[viewV b, .slice ra 1 rc] w fun e w' => ∃ o s g q v l, e = .returned (.pointer (some ⟨o, 0, none⟩)) ∧ WalkS w' w.heap.size b o s g q cs.length v (upd (fun _ => false) x true) l ∧ l.map Prod.fst = [x] ∧ Below w.heap.size w w' := by
  have HC := Lib.hid (aCommits h)
  have hf := h.few.1
  have HRA := Lib.hid hra
  obtain ⟨N, hN⟩ : ∃ N, cs.length = N := ⟨_, rfl⟩
  rw [hN] at HC hf hx ⊢
  have HM := Lib.hid (mNew N (by omega) w)
  have HQ := Lib.hid (fun W => qwNew W)
  have HX := Lib.hid hx
  clear h hra hx
  unfold viewV at HC ⊢
  go_enter Tryz.func48, Tryz.ntmps48
  go_wp2_with fail
  (with_reducible refine HC.out.mono ?_)
  rintro e w1 ⟨rfl, rfl⟩
  go_wp2_with fail
  (with_reducible refine HM.out.mono ?_)
  rintro e w2 ⟨s, g, rfl, hm2, hs2, hg2, hb2⟩
  have HM2 := Lib.hid hm2; have HB2 := Lib.hid hb2; have HSG := Lib.hid (And.intro hs2 hg2)
  clear hm2 hb2 hs2 hg2
  go_wp2_with fail
  (with_reducible refine (HQ.out w2).mono ?_)
  rintro e w3 ⟨q, rfl, hq3, hqz, hb3⟩
  obtain ⟨W4, hW4⟩ : ∃ W4, w3.alloc (.cells #[viewV b, .pointer (some ⟨s, 0, none⟩), .pointer (some ⟨q, 0, none⟩)] 124) = W4 := ⟨_, rfl⟩
  have hb4 : Below w3.heap.size w3 W4 := by rw [← hW4]; exact bl_alloc (Below.refl _ _) _
  have hs4 : W4.heap[w3.heap.size]? = some (.cells #[viewV b, .pointer (some ⟨s, 0, none⟩), .pointer (some ⟨q, 0, none⟩)] 124 (0, 0)) := by rw [← hW4]; exact heap_alloc_new _ _
  have hml := HM2.out.lt
  have hql := hq3.lt.1
  have hz2 := HB2.out.size
  have hz3 := hb3.size
  have hsg := HSG.out
  have hb14 : Below w1.heap.size w1 W4 := bl_trans (bl_trans HB2.out hb3) hb4
  have hWS : WalkS W4 w1.heap.size b w3.heap.size s g q N (.slice none 0 0) (fun _ => false) [] := ⟨hs4, (HM2.out.below hb3).below hb4, hq3.below hb4, by
    have := HM2.out.ne
    simp [Value.ownBlock]
    omega, fun j hj => by
    simp [Value.ownBlock] at hj
    omega⟩
  have HAd := Lib.hid (show Calls Tryz.prog 51 #[.pointer (some ⟨w3.heap.size, 0, none⟩), .slice ra 1 rc] W4 fun e w' => e = .returned (.tuple #[]) ∧ AddSaid W4 w1.heap.size b w3.heap.size s g q N (fun _ => false) [] [x] w' from aAdd (Q := []) hWS (by simp) (by simp) [x] ra rc (HRA.out.below hb14) (fun b' off e hm => by
    obtain ⟨b2, off2, e1, e2, _⟩ := nat_cells HRA.out (k := 0) (by simp)
    rw [e] at e1
    cases e1
    have := hWS.low b' hm
    omega) (by simpa using HX.out) (by simp))
  have HW4 := Lib.hid hW4; have HB14 := Lib.hid hb14
  clear hq3 hb3 hW4 hb4 hs4 hml hql hz2 hz3 hsg hb14 hWS hqz
  unfold viewV at HW4
  go_upto_region 2 with (fail)
  rw [HW4.out]
  go_wp2_with fail
  (with_reducible refine HAd.out.mono ?_)
  rintro e w5 ⟨rfl, v, l, hw5, hp5, hb5⟩
  have HE := Lib.hid (show WalkS w5 w1.heap.size b w3.heap.size s g q N v (upd (fun _ => false) x true) l ∧ l.map Prod.fst = [x] ∧ Below w1.heap.size w1 w5 from ⟨hw5, List.perm_singleton.1 hp5, HB14.out.trans hb5⟩)
  clear hw5 hp5 hb5
  go_wp2
  go_ret
  exact ⟨_, s, g, q, v, l, rfl, HE.out⟩
end
end Go.Proofs.YtbhfbdcmamodcaaGreatDoor
namespace Go.Proofs.YtbhfbdcmamodcaaGreatDoor
open Go.RowKit LgMath
section
variable {w w' : World} {B b o s g q N k a x : Nat} {v : Value} {seen gate : Nat → Bool} {l : List (Nat × Nat)} {cs : List ComP} {G : Gr}
theorem ViewAt.parFew (h : ViewAt w b cs k) (c : Nat) : (par (grC cs) c).length ≤ 1000 := by
  obtain ⟨B, s, x, p, E, ts, T, gs, nx, h1, h2, h3⟩ := h
  rw [grC_par, List.getD_eq_getElem?_getD]
  cases e : cs[c]? with
  | none => show (0 : Nat) ≤ 1000; omega
  | some y =>
    have := (h2.good.commits c y e).1.few
    show y.1.length ≤ 1000
    omega
theorem WalkS.mono {C : Nat} (h : WalkS w B b o s g q N v seen l) (hC : C ≤ B) : WalkS w C b o s g q N v seen l := ⟨h.box, h.marks, h.queue, h.own, fun j hj => Nat.le_trans hC (h.low j hj)⟩
def Popped (w' : World) (B b o s g q N : Nat) (G : Gr) (a x : Nat) (gate seen : Nat → Bool) (cv okv : Value) : Prop :=
  ∃ v' l', WalkS w' B b o s g q N v' seen l' ∧ ((okv = .bool false ∧ Go G a x gate seen [] (fun _ => False)) ∨ ∃ c : Nat, cv = .int .i64 (c : Nat) ∧ okv = .bool true ∧ seen c = true ∧ Go G a x gate seen (l'.map Prod.fst) (fun y => False ∨ y = c))
theorem aPop (hW : WalkS w B b o s g q N v seen l) (hg : Go G a x gate seen (l.map Prod.fst) (fun _ => False)) (hl : l.length ≤ 100000) :
    Calls Tryz.prog 49 #[.pointer (some ⟨q, 0, none⟩)] w fun e w' => ∃ cv okv, e = .returned (.tuple #[cv, okv]) ∧ Popped w' B b o s g q N G a x gate seen cv okv ∧ Below B w w' ∧ 2 * cntW w' g N + lenW w' q + okN okv ≤ 2 * cntF N seen + l.length := by
  by_cases h0 : l = []
  · subst h0
    refine (qwPopNone hW.queue).mono fun e w' ⟨h1, h2⟩ => ⟨_, _, h1, ⟨v, [], by rw [h2]; exact hW, .inl ⟨rfl, hg⟩⟩, by rw [h2]; exact Below.refl _ _, ?_⟩
    rw [h2, hW.marks.cnt, hW.queue.lenW]
    exact Nat.le_refl _
  · have hpos : 0 < l.length := List.length_pos_iff.2 h0
    refine (qwPop hW.queue hpos hl).mono fun e w' ⟨h1, v', l', hq, hp, hu, hv⟩ => ?_
    have hW' := hW.turn hq hu (fun j e => .inl (by rw [← hv]; exact e))
    have hg2 := (hg.perm hp)
    refine ⟨_, _, h1, ⟨v', l', hW', .inr ⟨_, rfl, rfl, hg2.mem _ (by simp), hg2.pop⟩⟩, hu.below (fun j e => ?_) (by have := hW.lt o (by simp); have := hW.low o (by simp); omega), ?_⟩
    · rcases e with rfl | e
      · exact hW.low _ (by simp)
      · exact hW.low _ (by simp [e])
    · rw [hW'.marks.cnt, hq.lenW]
      have := hp.length_eq
      simp only [List.length_map, List.length_cons] at this
      show 2 * cntF N seen + l'.length + 1 ≤ _
      omega
end
def gateF (cs : List ComP) (k a : Nat) (y : Nat) : Bool := decide (a < y) && mayG (genV cs k y) (genV cs k a)
theorem gate_ok {cs : List ComP} (hG : LowG (grC cs)) (k : Nat) {a : Nat} : ∀ x, Anc (grC cs) x a → x ≠ a → gateF cs k a x = true := fun x h hn => by
  unfold gateF
  rw [may_anc hG k h hn, decide_eq_true (h.lt hG hn)]
  rfl
set_option maxHeartbeats 4000000 in
set_option maxRecDepth 100000 in
theorem aIsAnc {w : World} {b k : Nat} {cs : List ComP} (h : ViewAt w b cs k) (a x : Nat) (ha : a < cs.length) (hx : x < cs.length) :
    Calls Tryz.prog 22 #[viewV b, .int .i64 (a : Nat), .int .i64 (x : Nat)] w fun e w' => e = .returned (.tuple #[.bool (ancB (grC cs) x a), .int .i64 0]) ∧ Below w.heap.size w w' := by
  have hG := h.low
  have hfew := h.parFew
  have hc12 := h.few.1
  obtain ⟨G, hGG⟩ : ∃ G, grC cs = G := ⟨_, rfl⟩
  obtain ⟨W1, hW1⟩ : ∃ W1, w.alloc (.cells #[.int .i64 (a : Nat), .int .i64 (x : Nat)] 3) = W1 := ⟨_, rfl⟩
  obtain ⟨W2, hW2⟩ : ∃ W2, W1.alloc (.cells #[.slice (some ⟨w.heap.size, 0, none⟩) 2 2] 42) = W2 := ⟨_, rfl⟩
  have hb1 : Below w.heap.size w W1 := by rw [← hW1]; exact bl_alloc (Below.refl _ _) _
  have hb2 : Below W1.heap.size W1 W2 := by rw [← hW2]; exact bl_alloc (Below.refl _ _) _
  have hb12 := bl_trans hb1 hb2
  have hz1 : W1.heap.size = w.heap.size + 1 := by rw [← hW1]; simp
  have hs2 : W2.heap[w.heap.size + 1]? = some (.cells #[.slice (some ⟨w.heap.size, 0, none⟩) 2 2] 42 (0, 0)) := by rw [← hz1, ← hW2]; exact heap_alloc_new _ _
  have hGA : GAt W2 (some ⟨w.heap.size + 1, 0, none⟩) [[a, x]] := ⟨[(.slice (some ⟨w.heap.size, 0, none⟩) 2 2, [a, x])], rfl, fun j v hj => by
    have hj0 : j = 0 := by have := (List.getElem?_eq_some_iff.1 hj).1; simp [gRowV] at this; omega
    subst hj0
    refine ⟨_, _, rfl, (Array.getElem?_eq_some_iff.1 hs2).1, ?_⟩
    rw [cell_of_row _ _ _ _ _ _ hs2]
    exact hj, fun y hy => by
    rw [List.mem_singleton.1 hy]
    exact ⟨_, _, rfl, by have := two_new w a x; rw [hW1] at this; exact this.below hb2⟩⟩
  have HA := Lib.hid (show Calls Tryz.prog 47 #[viewV b, .slice (some ⟨w.heap.size + 1, 0, none⟩) 1 1] W2 fun e w' => e = .returned (.int .i64 0) ∧ w' = W2 from aAsked (h.below hb12) (some ⟨w.heap.size + 1, 0, none⟩) 1 [[a, x]] (by simp) hGA (fun c y hy => by
    unfold par at hy
    cases c with
    | zero => simp at hy; rcases hy with rfl | rfl <;> assumption
    | succ c => simp at hy) (fun c => by
    unfold par
    cases c with
    | zero => simp
    | succ c => simp))
  have HGen := Lib.hid (fun W (hb : Below w.heap.size w W) n (hn : n < cs.length) => vGen (h.below hb) hn)
  have HPar := Lib.hid (fun W (hb : Below w.heap.size w W) n (hn : n < cs.length) => vParents (h.below hb) hn)
  have HNew := Lib.hid (fun W (hb : Below w.heap.size w W) ra (hra : CellsAt W ra ([x].flatMap natV)) => aNew (h.below hb) x hx ra 1 hra)
  have HMay := Lib.hid (fun n W => gMay (genV cs k n) (genV cs k a) (genV_small cs k n) (genV_small cs k a) W)
  have HGate := Lib.hid (gate_ok hG k (a := a))
  have HLow := Lib.hid hG; have HFew := Lib.hid hfew
  have HA1 := Lib.hid (show ∀ c, Anc (grC cs) x c → c < cs.length from fun c hc => by have := hc.le hG; omega)
  have HGL := Lib.hid (show (grC cs).length = cs.length from by unfold grC; rw [List.length_map])
  have hm1 := mvGen; have hm2 := mvParents
  have HW1 := Lib.hid hW1; have HW2 := Lib.hid hW2; have HB12 := Lib.hid hb12
  obtain ⟨N, hN⟩ : ∃ N, cs.length = N := ⟨_, rfl⟩
  rw [hN] at HGen HPar HNew HA1 HGL ha hx hc12
  rw [hGG] at HPar HGate HLow HFew HA1 HGL ⊢
  have HXN := Lib.hid (And.intro ha hx)
  clear h hG hfew hW1 hW2 hb1 hb2 hb12 hz1 hs2 hGA hGG hN ha hx
  unfold viewV at HA ⊢
  go_enter Tryz.func22, Tryz.ntmps22
  go_wp2_with fail
  rw [HW1.out, HW2.out]
  (with_reducible refine HA.out.mono ?_)
  rintro e w3 ⟨rfl, hw3⟩
  rw [hw3]
  clear hw3
  have HG4 := Lib.hid (HGen.out W2 HB12.out a HXN.out.1)
  go_wp2_with fail
  (with_reducible refine HG4.out.mono ?_)
  rintro e w4 ⟨rfl, hb4⟩
  obtain ⟨W5, hW5⟩ : ∃ W5, w4.alloc (.cells #[.int .i64 (x : Nat)] 3) = W5 := ⟨_, rfl⟩
  have hb5 : Below w.heap.size w W5 := by rw [← hW5]; exact bl_alloc (bl_trans HB12.out hb4) _
  have HN5 := Lib.hid (HNew.out W5 hb5 (some ⟨w4.heap.size, 0, none⟩) (by have := one_new w4 x; rw [hW5] at this; exact this))
  have HW5 := Lib.hid hW5; have HB5 := Lib.hid hb5
  unfold viewV at HN5
  clear hW5 hb5 hb4 HA HG4 HNew
  go_wp2_with fail
  rw [HW5.out]
  (with_reducible refine HN5.out.mono ?_)
  rintro e w6 ⟨o, s, g, q, v, l, rfl, hWS, hl1, hb6⟩
  have hWS' := hWS.mono HB5.out.size
  have hGo : Go G a x (gateF cs k a) (upd (fun _ => false) x true) (l.map Prod.fst) (fun _ => False) := by
    rw [hl1]
    refine ⟨upd_same _ _ _, fun y hy => ?_, by simp, fun y hy => ?_, fun y hy hq _ => ?_⟩
    · by_cases e : y = x
      · rw [e]; exact .refl _
      · rw [upd_other _ _ e] at hy; cases hy
    · rw [List.mem_singleton.1 hy]; exact upd_same _ _ _
    · by_cases e : y = x
      · rw [e] at hq; simp at hq
      · rw [upd_other _ _ e] at hy; cases hy
  have HPop := Lib.hid (fun (W : World) (v : Value) (l : List (Nat × Nat)) (seen : Nat → Bool) (hW : WalkS W w.heap.size b o s g q N v seen l) (hg : Go G a x (gateF cs k a) seen (l.map Prod.fst) (fun _ => False)) => aPop hW hg (by
    have h1 := nodup_few (N := N) hg.nd fun y hy => HA1.out y (hg.sound y (hg.mem y hy))
    rw [List.length_map] at h1
    omega))
  have HP6 := Lib.hid (HPop.out w6 v l _ hWS' hGo)
  have c2 := hWS.cells.2.2
  have HB6 := Lib.hid (bl_trans HB5.out hb6)
  clear hWS hWS' hGo hl1 hb6 HN5
  go_wp2_with fail
  (with_reducible refine HP6.out.mono ?_)
  rintro e w7 ⟨cv, okv, rfl, hpo, hb7, _⟩
  have HPO := Lib.hid hpo; have HB7 := Lib.hid (HB6.out.trans hb7)
  clear hpo hb7 c2 HP6
  go_wp2_with fail
  go_loopw [11, 12] (fun cv okv wr => ∃ seen, Popped wr w.heap.size b o s g q N G a x (gateF cs k a) seen cv okv ∧ Below w.heap.size w wr) (fun _ okv wr => 2 * cntW wr g N + lenW wr q + okN okv)
  case atStart => exact ⟨_, HPO.out, HB7.out⟩
  case round =>
    obtain ⟨seen, ⟨v', l', hW, hcase⟩, hbel⟩ := hrel
    obtain ⟨wq, hwq⟩ : ∃ wq : World, wq = wr := ⟨_, rfl⟩
    subst hwq
    clear HPO HB7 HB6
    rcases hcase with ⟨rfl, hgo⟩ | ⟨c, rfl, rfl, hsc, hgo⟩
    · have HE := Lib.hid (show ancB G x a = false from by
        cases e : ancB G x a with
        | false => rfl
        | true => exact absurd (ancB_iff.1 e) (hgo.none HGate.out))
      have HB := Lib.hid hbel
      clear hgo hW hbel
      go_wp2
      exact bodyPost_ret (v := .tuple #[.bool false, .int .i64 0]) (by simp [results, Tryz.results22, go_sem]) rfl ⟨by rw [HE.out], HB.out⟩
    · have hanc := hgo.sound c hsc
      have hcN := HA1.out c hanc
      have hmu : 2 * cntF N seen + l'.length < 2 * cntW wq g N + lenW wq q + okN (.bool true) := by
        rw [hW.marks.cnt, hW.queue.lenW]
        show _ < _ + 1
        omega
      have HMU := Lib.hid hmu; have HB := Lib.hid hbel; have HWS := Lib.hid hW; have HGO := Lib.hid hgo; have HAN := Lib.hid hanc
      have c2 := hW.cells.2.2
      clear hmu hbel hW hgo hanc hsc
      by_cases hca : c = a
      · subst hca
        have d1 : ((c : Int) == (c : Int)) = true := by simp
        have HE := Lib.hid (show ancB G x c = true from ancB_iff.2 HAN.out)
        go_wp2
        exact bodyPost_ret (v := .tuple #[.bool true, .int .i64 0]) (by simp [results, Tryz.results22, go_sem]) rfl ⟨by rw [HE.out], HB.out⟩
      · have d1 : ((c : Int) == (a : Int)) = false := by rw [beq_eq_false_iff_ne]; omega
        have d2 : ¬ (c : Int) = (a : Int) := by omega
        have HSKIP := Lib.hid (fun (hgt : gateF cs k a c = false) => HGO.out.close (c := c) hca (fun e => by rw [hgt] at e; cases e))
        by_cases hac : a < c
        · have d3 : decide ((c : Int) > (a : Int)) = true := decide_eq_true (by omega)
          have d4 : decide (a < c) = true := decide_eq_true hac
          have HGc := Lib.hid (HGen.out wq HB.out c hcN)
          have HGF := Lib.hid (show gateF cs k a c = mayG (genV cs k c) (genV cs k a) from by unfold gateF; rw [decide_eq_true hac]; rfl)
          go_wp2_with fail
          (with_reducible refine HGc.out.mono ?_)
          rintro e w8 ⟨rfl, hb8⟩
          have HMc := Lib.hid (HMay.out c w8)
          have HB8 := Lib.hid (bl_trans HB.out hb8)
          have HW8 := Lib.hid (HWS.out.below hb8)
          have c2 := HW8.out.cells.2.2
          obtain ⟨t, ht⟩ : ∃ t, mayG (genV cs k c) (genV cs k a) = t := ⟨_, rfl⟩
          rw [ht] at HGF HMc
          clear hb8 ht HGc
          go_wp2_with fail
          (with_reducible refine HMc.out.mono ?_)
          rintro e w8' ⟨rfl, rfl⟩
          cases t with
          | false =>
            have HP := Lib.hid (HPop.out w8' v' l' seen HW8.out (HSKIP.out HGF.out))
            go_wp2_with fail
            (with_reducible refine HP.out.mono ?_)
            rintro e w9 ⟨cv9, okv9, rfl, hpo9, hb9, hmu9⟩
            have HPO9 := Lib.hid hpo9; have HB9 := Lib.hid (HB8.out.trans hb9); have HMU9 := Lib.hid (Nat.lt_of_le_of_lt hmu9 HMU.out)
            clear hpo9 hb9 hmu9
            go_wp2
            go_roundw
            case rel => exact ⟨_, HPO9.out, HB9.out⟩
            case measure => exact HMU9.out
          | true =>
            have HPc := Lib.hid (HPar.out w8' HB8.out c hcN)
            go_wp2_with fail
            (with_reducible refine HPc.out.mono ?_)
            rintro e wp ⟨pa, pc, rfl, ho, hbp⟩
            obtain ⟨pa', pc', e1, hpc, _, _, hob, _⟩ := ho.sl
            obtain ⟨rfl, _, rfl⟩ := Value.slice.inj e1
            have hWp := HW8.out.below hbp
            have hfc := HFew.out c
            have HAd := Lib.hid (aAdd (Q := l'.map Prod.fst) hWp (List.Perm.refl _) (by
              have h1 := nodup_few (N := N) HGO.out.nd fun y hy => HA1.out y (HGO.out.sound y (HGO.out.mem y hy))
              rw [List.length_map] at h1
              omega) (par G c) pa pc hpc (fun b' off e hm => by
              have h1 := (ho.lt b' (hob b' off e)).1
              have h2 := HW8.out.lt b' hm
              omega) (fun p hp => by have := HLow.out c p hp; omega) hfc)
            have HBp := Lib.hid (bl_trans HB8.out hbp)
            clear ho hpc hob hbp hWp e1 HPc
            go_wp2_with fail
            (with_reducible refine HAd.out.mono ?_)
            rintro e wa ⟨rfl, va, la, hWa, hpa, hba⟩
            have hanc := HAN.out
            have hg2 := ((HGO.out.adds (par G c) (fun p hp => hanc.tail hp)).perm hpa.symm).close (c := c) hca (fun _ p hp => (addS_seen (par G c) (seen, l'.map Prod.fst) p).2 (.inr hp))
            have hcnt := cnt_adds N (par G c) (seen, l'.map Prod.fst) (fun p hp => by have := HLow.out c p hp; omega)
            have hlen := hpa.length_eq
            rw [List.length_map] at hlen
            simp only [List.length_map] at hcnt
            have hmu2 : 2 * cntF N (addS (seen, l'.map Prod.fst) (par G c)).1 + la.length < 2 * cntW wq g N + lenW wq q + okN (.bool true) := by have := HMU.out; omega
            have c2 := hWa.cells.2.2
            have HBa := Lib.hid (HBp.out.trans hba)
            have HWa := Lib.hid hWa; have HGa := Lib.hid hg2; have HMUa := Lib.hid hmu2
            clear hWa hpa hba hg2 hcnt hlen hmu2 hanc HAd
            have HP := Lib.hid (HPop.out wa va la _ HWa.out HGa.out)
            go_wp2_with fail
            (with_reducible refine HP.out.mono ?_)
            rintro e w9 ⟨cv9, okv9, rfl, hpo9, hb9, hmu9⟩
            have HPO9 := Lib.hid hpo9; have HB9 := Lib.hid (HBa.out.trans hb9); have HMU9 := Lib.hid (Nat.lt_of_le_of_lt hmu9 HMUa.out)
            clear hpo9 hb9 hmu9
            go_wp2
            go_roundw
            case rel => exact ⟨_, HPO9.out, HB9.out⟩
            case measure => exact HMU9.out
        · have d3 : decide ((c : Int) > (a : Int)) = false := decide_eq_false (by omega)
          have d4 : decide (a < c) = false := decide_eq_false hac
          have HGF := Lib.hid (show gateF cs k a c = false from by unfold gateF; rw [decide_eq_false hac]; rfl)
          have HP := Lib.hid (HPop.out wq v' l' seen HWS.out (HSKIP.out HGF.out))
          go_wp2_with fail
          (with_reducible refine HP.out.mono ?_)
          rintro e w9 ⟨cv9, okv9, rfl, hpo9, hb9, hmu9⟩
          have HPO9 := Lib.hid hpo9; have HB9 := Lib.hid (HB.out.trans hb9); have HMU9 := Lib.hid (Nat.lt_of_le_of_lt hmu9 HMU.out)
          clear hpo9 hb9 hmu9
          go_wp2
          go_roundw
          case rel => exact ⟨_, HPO9.out, HB9.out⟩
          case measure => exact HMU9.out
end Go.Proofs.YtbhfbdcmamodcaaGreatDoor
namespace Go.Proofs.YtbhfbdcmamodcaaGreatDoor
open Go.RowKit Go.Maps LgMath
def keyI (c : Nat) : Lit := .int .i64 (c : Nat)
theorem keyI_ok (c : Nat) : WideAt.IsKeyLit (keyI c) := by unfold keyI; exact True.intro
theorem keyI_inj {c d : Nat} (h : keyI c = keyI d) : c = d := by
  unfold keyI at h
  have := (Lit.int.inj h).2
  omega
structure PaintD (D : DataW Unit) (pt : Nat → Paint) : Prop where
  tidy : Maps.Tidy D
  has : ∀ y, Maps.has D (keyI y) = (pt y).any
  at_ : ∀ y, D.atKey (keyI y) (.lit (.int .i64 0)) = .lit (.int .i64 (pcode (pt y) : Nat))
theorem PaintD.put {D : DataW Unit} {pt : Nat → Paint} (h : PaintD D pt) (c : Nat) (p : Paint) (hp : p.any = true) : PaintD (D.put (keyI c) (.lit (.int .i64 (pcode p : Nat)))) (upd pt c p) := by
  refine ⟨h.tidy.put (keyI_ok c) _, fun y => ?_, fun y => ?_⟩
  · by_cases e : y = c
    · subst e
      rw [Maps.has_put_same h.tidy.isMap (keyI_ok y), upd_same, hp]
    · rw [Maps.has_put_other (fun k => e (keyI_inj k)), upd_other _ _ e, h.has]
  · by_cases e : y = c
    · subst e
      rw [Maps.atKey_put_same h.tidy.isMap (keyI_ok y), upd_same]
    · rw [Maps.atKey_put_other (fun k => e (keyI_inj k)), upd_other _ _ e, h.at_]
structure PaintS (w : World) (B b o m q N n : Nat) (v : Value) (pt : Nat → Paint) (l : List (Nat × Nat)) (fr : Int) : Prop where
  box : w.heap[o]? = some (.cells #[viewV b, .int .i64 (N : Nat), .map (some m), .pointer (some ⟨q, 0, none⟩), .int .i64 fr] 209 (0, 0))
  map : ∃ D, w.ownsMap Tryz.prog 3 (plainElem Tryz.prog 3) m n D ∧ PaintD D pt
  queue : qbAt w q v l
  own : (o :: m :: q :: v.ownBlock.toList).Nodup
  low : ∀ j ∈ o :: m :: q :: v.ownBlock.toList, B ≤ j
section
variable {w w' : World} {B b o m q N n k : Nat} {v : Value} {pt : Nat → Paint} {l : List (Nat × Nat)} {fr : Int}
theorem PaintS.lt (h : PaintS w B b o m q N n v pt l fr) : ∀ j ∈ o :: m :: q :: v.ownBlock.toList, j < w.heap.size := fun j hj => by
  simp only [List.mem_cons, Option.mem_toList] at hj
  rcases hj with rfl | rfl | rfl | e
  · exact (Array.getElem?_eq_some_iff.1 h.box).1
  · obtain ⟨D, h1, _⟩ := h.map
    exact h1.lt
  · exact h.queue.lt.1
  · exact h.queue.lt.2 j e
theorem PaintS.stays (h : PaintS w B b o m q N n v pt l fr) (hs : ∀ j ∈ o :: m :: q :: v.ownBlock.toList, w'.heap[j]? = w.heap[j]?) : PaintS w' B b o m q N n v pt l fr := by
  obtain ⟨D, h1, h2⟩ := h.map
  exact ⟨(hs o (by simp)).trans h.box, ⟨D, map_stays h1 (hs m (by simp)), h2⟩, h.queue.stays (hs q (by simp)) (fun j e => hs j (by simp [e])), h.own, h.low⟩
theorem PaintS.below (h : PaintS w B b o m q N n v pt l fr) (hb : Below w.heap.size w w') : PaintS w' B b o m q N n v pt l fr :=
  h.stays fun j hj => hb.block j (h.lt j hj)
theorem PaintS.cells (h : PaintS w B b o m q N n v pt l fr) : w.cell? ⟨o, 0, none⟩ = some (viewV b) ∧ w.cell? ⟨o, 1, none⟩ = some (.int .i64 (N : Nat)) ∧ w.cell? ⟨o, 2, none⟩ = some (.map (some m)) ∧ w.cell? ⟨o, 3, none⟩ = some (.pointer (some ⟨q, 0, none⟩)) ∧ w.cell? ⟨o, 4, none⟩ = some (.int .i64 fr) ∧ w.frozen? ⟨o, 4, none⟩ = false :=
  ⟨by rw [cell_of_row _ _ _ _ _ _ h.box]; rfl, by rw [cell_of_row _ _ _ _ _ _ h.box]; rfl, by rw [cell_of_row _ _ _ _ _ _ h.box]; rfl, by rw [cell_of_row _ _ _ _ _ _ h.box]; rfl, by rw [cell_of_row _ _ _ _ _ _ h.box]; rfl, frozen_of_row _ _ _ _ _ h.box⟩
theorem PaintS.ne (h : PaintS w B b o m q N n v pt l fr) : o ≠ m ∧ o ≠ q ∧ m ≠ q ∧ v.ownBlock ≠ some o ∧ v.ownBlock ≠ some m ∧ v.ownBlock ≠ some q := by
  have := h.own
  simp only [List.nodup_cons, List.mem_cons, Option.mem_toList, not_or] at this
  obtain ⟨⟨a1, a2, a3⟩, ⟨b1, b2⟩, c1, _⟩ := this
  exact ⟨a1, a2, b1, a3, b2, c1⟩
theorem PaintS.count (h : PaintS w B b o m q N n v pt l fr) (fr' : Int) : PaintS (w.setCell ⟨o, 4, none⟩ (.int .i64 fr')) B b o m q N n v pt l fr' := by
  obtain ⟨n1, n2, n3, n4, n5, n6⟩ := h.ne
  have hs : ∀ j, j ≠ o → (w.setCell ⟨o, 4, none⟩ (.int .i64 fr')).heap[j]? = w.heap[j]? := fun j hj => heap_setCell_other _ _ _ _ hj
  obtain ⟨D, h1, h2⟩ := h.map
  exact ⟨heap_setCell_same w o 4 _ _ _ h.box, ⟨D, map_stays h1 (hs m (fun e => n1 e.symm)), h2⟩, h.queue.stays (hs q (fun e => n2 e.symm)) (fun j e => hs j (fun e2 => n4 (by rw [e, e2]))), h.own, h.low⟩
theorem PaintS.turn (h : PaintS w B b o m q N n v pt l fr) {v' : Value} {l' : List (Nat × Nat)} (hq : qbAt w' q v' l') (hu : Upd (fun j => j = q ∨ v.ownBlock = some j) w w') (hv : ∀ j, v'.ownBlock = some j → v.ownBlock = some j ∨ w.heap.size ≤ j) : PaintS w' B b o m q N n v' pt l' fr := by
  obtain ⟨n1, n2, n3, n4, n5, n6⟩ := h.ne
  have hl := h.lt
  have lo := hl o (by simp); have lm := hl m (by simp); have lq := hl q (by simp)
  have hB := h.low o (by simp)
  have key : ∀ x, x < w.heap.size → v.ownBlock ≠ some x → v'.ownBlock ≠ some x := fun x h1 h2 e => by
    rcases hv x e with e2 | e2
    · exact h2 e2
    · omega
  obtain ⟨D, h1, h2⟩ := h.map
  refine ⟨(hu.block _ lo (fun e => e.elim n2 n4)).trans h.box, ⟨D, map_stays h1 (hu.block _ lm (fun e => e.elim n3 n5)), h2⟩, hq, ?_, fun j hj => ?_⟩
  · simp only [List.nodup_cons, List.mem_cons, Option.mem_toList, not_or]
    exact ⟨⟨n1, n2, key o lo n4⟩, ⟨n3, key m lm n5⟩, key q lq n6, by cases v'.ownBlock <;> simp⟩
  · simp only [List.mem_cons, Option.mem_toList] at hj
    rcases hj with rfl | rfl | rfl | e
    · exact hB
    · exact h.low _ (by simp)
    · exact h.low _ (by simp)
    · rcases hv j e with e2 | e2
      · exact h.low j (by simp [e2])
      · omega
theorem PaintS.paint (h : PaintS w B b o m q N n v pt l fr) {n' : Nat} {D : DataW Unit} {pt' : Nat → Paint} (hm : w'.ownsMap Tryz.prog 3 (plainElem Tryz.prog 3) m n' D) (hD : PaintD D pt') (hg : w.grownBy w' (some m)) : PaintS w' B b o m q N n' v pt' l fr := by
  obtain ⟨n1, n2, n3, n4, n5, n6⟩ := h.ne
  have hs : ∀ j, j ∈ o :: m :: q :: v.ownBlock.toList → j ≠ m → w'.heap[j]? = w.heap[j]? := fun j hj hn => hg.block j (h.lt j hj) (fun e => hn (Option.some.inj e))
  exact ⟨(hs o (by simp) n1).trans h.box, ⟨D, hm, hD⟩, h.queue.stays (hs q (by simp) (fun e => n3 e.symm)) (fun j e => hs j (by simp [e]) (fun e2 => n5 (by rw [e, e2]))), h.own, h.low⟩
end
end Go.Proofs.YtbhfbdcmamodcaaGreatDoor
namespace Go.Proofs.YtbhfbdcmamodcaaGreatDoor
open Go.RowKit Go.Maps LgMath
def deltaP (x p : Paint) : Int := (if !(x.any && !x.s) && !(x.or p).s then 1 else 0) - (if (x.any && !x.s) && (x.or p).s then 1 else 0)
theorem delta_at {x p : Paint} {t s0 s1 : Bool} (h1 : x.any = t) (h2 : x.s = s0) (h3 : (x.or p).s = s1) : deltaP x p = (if !(t && !s0) && !s1 then 1 else 0) - (if (t && !s0) && s1 then 1 else 0) := by
  unfold deltaP
  rw [h1, h2, h3]
theorem or_any {x p : Paint} (h : p.any = true) : (x.or p).any = true := by
  obtain ⟨a, b, c⟩ := x
  obtain ⟨d, e, f⟩ := p
  cases a <;> cases b <;> cases c <;> cases d <;> cases e <;> cases f <;> first | rfl | cases h
def PaintSaid (w : World) (B b o m q N n : Nat) (v : Value) (pt : Nat → Paint) (l : List (Nat × Nat)) (fr : Int) (c : Nat) (p : Paint) (w' : World) : Prop :=
  ∃ v' l', PaintS w' B b o m q N (n + 1) v' (upd pt c ((pt c).or p)) l' (fr + deltaP (pt c) p) ∧ (l'.map Prod.fst).Perm (if (pt c).any then l.map Prod.fst else l.map Prod.fst ++ [c]) ∧ Upd (fun j => j ∈ o :: m :: q :: v.ownBlock.toList) w w' ∧ (∀ j, v'.ownBlock = some j → v.ownBlock = some j ∨ w.heap.size ≤ j)
set_option maxHeartbeats 4000000 in
set_option maxRecDepth 100000 in
theorem pAdd {w : World} {B b o m q N n : Nat} {v : Value} {pt : Nat → Paint} {l : List (Nat × Nat)} {fr : Int} (h : PaintS w B b o m q N n v pt l fr) (c : Nat) (hc : c < N) (p : Paint) (hp : p.any = true) (hl : l.length ≤ 100000) (hfr : -1000000 ≤ fr ∧ fr ≤ 1000000) (hn : n ≤ 2000000) (hN : N ≤ 65536) :
    Calls Tryz.prog 115 #[.pointer (some ⟨o, 0, none⟩), .int .i64 (c : Nat), .int .i64 (pcode p : Nat)] w fun e w' => e = .returned (.tuple #[]) ∧ PaintSaid w B b o m q N n v pt l fr c p w' := by
  obtain ⟨D, hD, hPD⟩ := h.map
  have hkey : keyOf Tryz.prog 3 (.int .i64 (c : Nat)) = some (keyI c) := keyOf_int_mk (k := 3) (P := Tryz.prog) Tryz.underlying3 (a := (c : Int)) (by exact WalkArith.wf_i64 (by omega))
  have hB : B ≤ w.heap.size := by have := h.lt o (by simp); have := h.low o (by simp); omega
  obtain ⟨x, hx⟩ : ∃ x, pt c = x := ⟨_, rfl⟩
  have hlt8 := pcode_lt (x.or p)
  have hlook : (Instr.lookup 204 (.map (some m)) (.int .i64 (c : Nat)) true).run Tryz.prog w = .ok (.tuple #[.int .i64 (pcode x : Nat), .bool x.any]) w := by
    obtain ⟨u, ps, hrun, hu⟩ := hD.look_ok (int_keyed Tryz.underlying3) Tryz.underlying204 (z := .int .i64 0) (zeroInt _) (zd := .lit (.int .i64 0)) (zp := []) (plainElem_int Tryz.underlying3 (by decide)) hkey
    rw [hPD.has c, hx] at hrun
    rw [hPD.at_ c, hx] at hu
    obtain ⟨a, rfl, ha, _⟩ := plainElem_int_inv Tryz.underlying3 hu
    have : a = (pcode x : Int) := by
      simp only [Prod.mk.injEq] at ha
      have h2 := ha.1
      cases h2
      rfl
    rw [this] at hrun
    exact hrun
  obtain ⟨w1, hupd, hD1, hg1⟩ := hD.update (int_keyed Tryz.underlying3) Tryz.underlying204 (by unfold maxLen; omega) hkey (val := .int .i64 (pcode (x.or p) : Nat)) (d := .lit (.int .i64 (pcode (x.or p) : Nat))) (ps := []) (plainElem_int Tryz.underlying3 (by exact WalkArith.wf_i64 (by omega)))
  have hS1 : PaintS w1 B b o m q N (n + 1) v (upd pt c (x.or p)) l fr := h.paint hD1 (hPD.put c (x.or p) (or_any hp)) hg1
  obtain ⟨k0, k1, k2, k3, k4, k5⟩ := h.cells
  obtain ⟨j0, j1, j2, j3, j4, j5⟩ := hS1.cells
  have hb1 : Upd (fun j => j ∈ o :: m :: q :: v.ownBlock.toList) w w1 := (Upd.refl _ w).grown hg1 (fun i e => .inl (by cases e; simp))
  have hor := pcode_or x p
  have ha0 := pcode_stale x
  have ha1 := pcode_stale (x.or p)
  have HU := Lib.hid (qbPush hS1.queue c hl)
  have g1 : decide ((c : Int) < 0) = false := by simp
  have g2 : decide ((c : Int) ≥ (N : Int)) = false := by simp; omega
  have g3 : decide (N ≤ c) = false := by simp; omega
  obtain ⟨t, ht⟩ : ∃ t, x.any = t := ⟨_, rfl⟩
  obtain ⟨s0, hs0⟩ : ∃ t, x.s = t := ⟨_, rfl⟩
  obtain ⟨s1, hs1⟩ : ∃ t, (x.or p).s = t := ⟨_, rfl⟩
  have HDL := Lib.hid (delta_at ht hs0 hs1)
  rw [ht] at hlook
  rw [hs0] at ha0
  rw [hs1] at ha1
  have HX := Lib.hid hx; have HT := Lib.hid ht; have HS1 := Lib.hid hS1; have HB1 := Lib.hid hb1
  clear h hD hPD hkey hB hx hD1 hg1 hS1 hb1 hs0 hs1 ht hp k0 k3 k4 k5 j0 j1
  generalize pcode x = cx at *
  generalize pcode p = cp at *
  generalize pcode (x.or p) = cq at *
  obtain ⟨fr1, hfr1⟩ : ∃ y, fr + 1 = y := ⟨_, rfl⟩
  have hw1 : IntKind.i64.wrap (fr + 1) = fr + 1 := IntWalk.i64_in _ (by omega)
  have hw2 : IntKind.i64.wrap (fr - 1) = fr - 1 := IntWalk.i64_in _ (by omega)
  have hv1 : wrap64 (fr + 1) = fr + 1 := IntWalk.wrap64_in _ (by omega)
  have hv2 : wrap64 (fr - 1) = fr - 1 := IntWalk.wrap64_in _ (by omega)
  clear hfr1
  have HEND := Lib.hid (show ∀ W v' l' fr', PaintS W B b o m q N (n + 1) v' (upd pt c (x.or p)) l' fr' → (l'.map Prod.fst).Perm (if t then l.map Prod.fst else l.map Prod.fst ++ [c]) → (Upd (fun j => j ∈ o :: m :: q :: v.ownBlock.toList) w W ∧ (∀ j, v'.ownBlock = some j → v.ownBlock = some j ∨ w.heap.size ≤ j)) → fr' = fr + ((if !(t && !s0) && !s1 then 1 else 0) - (if (t && !s0) && s1 then 1 else 0)) → PaintSaid w B b o m q N n v pt l fr c p W from fun W v' l' fr' h1 h2 h3 h4 => by
    subst h4
    refine ⟨v', l', ?_, ?_, h3⟩
    · rw [HX.out, HDL.out]; exact h1
    · rw [HX.out, HT.out]; exact h2)
  cases t with
  | true =>
    have HC := Lib.hid (show ∀ fr', PaintS (w1.setCell ⟨o, 4, none⟩ (.int .i64 fr')) B b o m q N (n + 1) v (upd pt c (x.or p)) l fr' ∧ Upd (fun j => j ∈ o :: m :: q :: v.ownBlock.toList) w (w1.setCell ⟨o, 4, none⟩ (.int .i64 fr')) from fun fr' => ⟨HS1.out.count fr', HB1.out.set _ _ _ (.inl (by simp))⟩)
    clear HU
    cases s0 <;> cases s1
    all_goals
      simp only [Bool.false_eq_true, if_false, if_true] at ha0 ha1
      go_enter Tryz.func115, Tryz.ntmps115
      go_wp2
      first
        | exact bodyPost_end (v := .tuple #[]) (by simp [results, Tryz.results115, go_sem]) rfl ⟨rfl, HEND.out _ v l _ HS1.out (List.Perm.refl _) ⟨HB1.out, fun j e => .inl e⟩ (by simp)⟩
        | exact bodyPost_end (v := .tuple #[]) (by simp [results, Tryz.results115, go_sem]) rfl ⟨rfl, HEND.out _ v l _ (HC.out _).1 (List.Perm.refl _) ⟨(HC.out _).2, fun j e => .inl e⟩ (by simp; try omega)⟩
        | (trace_state; fail)
  | false =>
    go_enter Tryz.func115, Tryz.ntmps115
    go_wp2_with fail
    (with_reducible refine HU.out.mono ?_)
    rintro e w2 ⟨rfl, v2, l2, hq2, hp2, hu2, hv2⟩
    have hS2 := HS1.out.turn hq2 hu2 hv2
    have hw1z := HB1.out.size
    have hb2 : Upd (fun j => j ∈ o :: m :: q :: v.ownBlock.toList) w w2 := HB1.out.trans hu2 (fun j e => .inl (by
      rcases e with rfl | e
      · simp
      · simp [e]))
    have hvv : ∀ j, v2.ownBlock = some j → v.ownBlock = some j ∨ w.heap.size ≤ j := fun j e => (hv2 j e).imp id (fun h => by omega)
    have HVV := Lib.hid hvv
    obtain ⟨_, _, _, _, i4, i5⟩ := hS2.cells
    have HS2 := Lib.hid hS2; have HB2 := Lib.hid hb2; have HP2 := Lib.hid (show (l2.map Prod.fst).Perm (l.map Prod.fst ++ [c]) from hp2.trans (List.perm_append_singleton c _).symm)
    have HC := Lib.hid (show ∀ fr', PaintS (w2.setCell ⟨o, 4, none⟩ (.int .i64 fr')) B b o m q N (n + 1) v2 (upd pt c (x.or p)) l2 fr' ∧ Upd (fun j => j ∈ o :: m :: q :: v.ownBlock.toList) w (w2.setCell ⟨o, 4, none⟩ (.int .i64 fr')) from fun fr' => ⟨hS2.count fr', hb2.set _ _ _ (.inl (by simp))⟩)
    clear hS2 hb2 hp2 hq2 hu2 hv2 HU hvv hw1z
    cases s0 <;> cases s1
    all_goals
      simp only [Bool.false_eq_true, if_false, if_true] at ha0 ha1
      go_wp2
      first
        | exact bodyPost_end (v := .tuple #[]) (by simp [results, Tryz.results115, go_sem]) rfl ⟨rfl, HEND.out _ v2 l2 _ HS2.out HP2.out ⟨HB2.out, HVV.out⟩ (by simp)⟩
        | exact bodyPost_end (v := .tuple #[]) (by simp [results, Tryz.results115, go_sem]) rfl ⟨rfl, HEND.out _ v2 l2 _ (HC.out _).1 HP2.out ⟨(HC.out _).2, HVV.out⟩ (by simp; try omega)⟩
        | (trace_state; fail)
end Go.Proofs.YtbhfbdcmamodcaaGreatDoor
namespace Go.Proofs.YtbhfbdcmamodcaaGreatDoor
open Go.RowKit Go.Maps LgMath
structure PB (w0 w : World) (b o m q N s1 g1 s2 g2 n : Nat) (v : Value) (pt : Nat → Paint) (l : List (Nat × Nat)) (fr : Int) (fnd done : Nat → Bool) : Prop where
  p : PaintS w w0.heap.size b o m q N n v pt l fr
  f : MarksAt w s1 g1 N fnd
  d : MarksAt w s2 g2 N done
  ap : ∀ j ∈ [s1, g1, s2, g2], j ∉ o :: m :: q :: v.ownBlock.toList
  nd : [s1, g1, s2, g2].Nodup
  lo : ∀ j ∈ [s1, g1, s2, g2], w0.heap.size ≤ j
  bel : Below w0.heap.size w0 w
section
variable {w0 w w' : World} {b o m q N s1 g1 s2 g2 n : Nat} {v : Value} {pt : Nat → Paint} {l : List (Nat × Nat)} {fr : Int} {fnd done : Nat → Bool}
theorem PB.lt (h : PB w0 w b o m q N s1 g1 s2 g2 n v pt l fr fnd done) : ∀ j ∈ [s1, g1, s2, g2], j < w.heap.size := fun j hj => by
  simp only [List.mem_cons, List.not_mem_nil, or_false] at hj
  rcases hj with rfl | rfl | rfl | rfl
  · exact h.f.lt.1
  · exact h.f.lt.2
  · exact h.d.lt.1
  · exact h.d.lt.2
theorem PB.ne (h : PB w0 w b o m q N s1 g1 s2 g2 n v pt l fr fnd done) : s1 ≠ g1 ∧ s1 ≠ s2 ∧ s1 ≠ g2 ∧ g1 ≠ s2 ∧ g1 ≠ g2 ∧ s2 ≠ g2 := by
  have := h.nd
  simp only [List.nodup_cons, List.mem_cons, List.not_mem_nil, or_false, not_or] at this
  obtain ⟨⟨a, b, c⟩, ⟨d, e⟩, f, _⟩ := this
  exact ⟨a, b, c, d, e, f⟩
theorem PB.below (h : PB w0 w b o m q N s1 g1 s2 g2 n v pt l fr fnd done) (hb : Below w.heap.size w w') : PB w0 w' b o m q N s1 g1 s2 g2 n v pt l fr fnd done :=
  ⟨h.p.below hb, h.f.below hb, h.d.below hb, h.ap, h.nd, h.lo, bl_trans h.bel hb⟩
theorem PB.sz (h : PB w0 w b o m q N s1 g1 s2 g2 n v pt l fr fnd done) : w0.heap.size ≤ w.heap.size := h.bel.size
theorem PB.find (h : PB w0 w b o m q N s1 g1 s2 g2 n v pt l fr fnd done) {f : Nat → Bool} (hm : MarksAt w' s1 g1 N f) (hu : Upd (· = g1) w w') : PB w0 w' b o m q N s1 g1 s2 g2 n v pt l fr f done := by
  obtain ⟨n1, n2, n3, n4, n5, n6⟩ := h.ne
  have ha := h.ap g1 (by simp)
  exact ⟨h.p.stays fun j hj => hu.block j (h.p.lt j hj) (fun e => ha (by rw [← e]; exact hj)), hm, h.d.upd hu (fun e => n4 e.symm) (fun e => n5 e.symm), h.ap, h.nd, h.lo, h.bel.trans (hu.below (fun j e => by have := h.lo g1 (by simp); omega) h.sz)⟩
theorem PB.close (h : PB w0 w b o m q N s1 g1 s2 g2 n v pt l fr fnd done) {f : Nat → Bool} (hm : MarksAt w' s2 g2 N f) (hu : Upd (· = g2) w w') : PB w0 w' b o m q N s1 g1 s2 g2 n v pt l fr fnd f := by
  obtain ⟨n1, n2, n3, n4, n5, n6⟩ := h.ne
  have ha := h.ap g2 (by simp)
  exact ⟨h.p.stays fun j hj => hu.block j (h.p.lt j hj) (fun e => ha (by rw [← e]; exact hj)), h.f.upd hu n3 n5, hm, h.ap, h.nd, h.lo, h.bel.trans (hu.below (fun j e => by have := h.lo g2 (by simp); omega) h.sz)⟩
theorem PB.turn (h : PB w0 w b o m q N s1 g1 s2 g2 n v pt l fr fnd done) {n' : Nat} {v' : Value} {pt' : Nat → Paint} {l' : List (Nat × Nat)} {fr' : Int} (hp : PaintS w' w0.heap.size b o m q N n' v' pt' l' fr') (hu : Upd (fun j => j ∈ o :: m :: q :: v.ownBlock.toList) w w') (hv : ∀ j, v'.ownBlock = some j → v.ownBlock = some j ∨ w.heap.size ≤ j) : PB w0 w' b o m q N s1 g1 s2 g2 n' v' pt' l' fr' fnd done := by
  have a1 := h.ap s1 (by simp); have a2 := h.ap g1 (by simp); have a3 := h.ap s2 (by simp); have a4 := h.ap g2 (by simp)
  refine ⟨hp, h.f.upd hu a1 a2, h.d.upd hu a3 a4, fun j hj hm => ?_, h.nd, h.lo, h.bel.trans (hu.below h.p.low h.sz)⟩
  have hl := h.lt j hj
  have hn := h.ap j hj
  simp only [List.mem_cons, Option.mem_toList, not_or] at hn hm
  rcases hm with e | e | e | e
  · exact hn.1 e
  · exact hn.2.1 e
  · exact hn.2.2.1 e
  · rcases hv j e with e2 | e2
    · exact hn.2.2.2 e2
    · omega
theorem PB.count (h : PB w0 w b o m q N s1 g1 s2 g2 n v pt l fr fnd done) (fr' : Int) : PB w0 (w.setCell ⟨o, 4, none⟩ (.int .i64 fr')) b o m q N s1 g1 s2 g2 n v pt l fr' fnd done :=
  h.turn (h.p.count fr') ((Upd.refl _ w).set _ _ _ (.inl (by simp))) (fun j e => .inl e)
end
theorem found_done {pt : Nat → Paint} {done : Nat → Bool} {c : Nat} (hd : done c = false) : foundF pt (upd done c true) = if (pt c).l && (pt c).r && !(pt c).s then upd (foundF pt done) c true else foundF pt done := by
  funext y
  by_cases e : y = c
  · subst e
    unfold foundF
    rw [upd_same]
    by_cases h : ((pt y).l && (pt y).r && !(pt y).s) = true
    · rw [if_pos h, upd_same, h]; rfl
    · rw [if_neg h, hd]; simp at h ⊢; exact h
  · have : foundF pt (upd done c true) y = foundF pt done y := by unfold foundF; rw [upd_other _ _ e]
    rw [this]
    split
    · rw [upd_other _ _ e]
    · rfl
theorem found_paint {pt : Nat → Paint} {done : Nat → Bool} {c : Nat} (hd : done c = false) (p : Paint) : foundF (upd pt c p) done = foundF pt done := by
  funext y
  unfold foundF
  by_cases e : y = c
  · subst e; rw [hd]; rfl
  · rw [upd_other _ _ e]
theorem fresh_delta {G : Gr} {a b : Nat} {pr : Nat → List Nat} {pt : Nat → Paint} {done : Nat → Bool} {Q : List Nat} {up : Nat} (h : Inv G a b pr pt done Q) (hud : done up = false) (p : Paint) :
    ((freshN (upd pt up ((pt up).or p)) (if (pt up).any then Q else Q ++ [up]) : Nat) : Int) = (freshN pt Q : Nat) + deltaP (pt up) p := by
  have h1 := fresh_add h hud ((pt up).or p) (fun e => by unfold Paint.or; rw [e]; rfl)
  unfold deltaP
  generalize freshN (upd pt up ((pt up).or p)) (if (pt up).any then Q else Q ++ [up]) = A at *
  generalize freshN pt Q = B at *
  generalize ((pt up).any && !(pt up).s) = t at *
  generalize ((pt up).or p).s = u at *
  cases t <;> cases u <;> simp at h1 ⊢ <;> omega
theorem fresh_le {pt : Nat → Paint} {Q : List Nat} : freshN pt Q ≤ Q.length := by unfold freshN; exact List.length_filter_le _ _
end Go.Proofs.YtbhfbdcmamodcaaGreatDoor
