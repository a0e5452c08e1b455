/- Layer 20 (bases), walked: the best ones; Layer 20 (bases), walked: the bases of two commits; WholeLong: the document's answers for layers 4, 11, 19, 20, walked: rows of bools; ancestors; WholeLong: the document's ancestors, walked; WholeLong: the document's lists and best ones, walked; WholeLong: the document's ancestors of a list, walked; WholeLong: the document's best ones, walked; WholeLong: the document's bases of two commits, walked; two lists that are the same. -/
import Derived.Test.YtbhfbdcmamodcaaGreatDoorL49
import Derived.Deep.CutRange
import Derived.Laws.CopyRow
import Derived.BigQuiet
set_option linter.unusedVariables false
set_option linter.unusedSimpArgs false
namespace Go.Proofs.YtbhfbdcmamodcaaGreatDoor
open Go.RowKit Go.Maps LgMath
theorem inv_small {G : Gr} {a x N : Nat} {pr : Nat → List Nat} {pt : Nat → Paint} {done : Nat → Bool} {Q : List Nat} (hG : LowG G) (h : Inv G a x pr pt done Q) (ha : a < N) (hx : x < N) {y : Nat} (hy : (pt y).any = true) : y < N := by
  unfold Paint.any at hy
  rw [Bool.or_eq_true, Bool.or_eq_true] at hy
  rcases hy with (e | e) | e
  · have := (h.sl hG e).le hG; omega
  · have := (h.sr hG e).le hG; omega
  · obtain ⟨z, h1, _, h3, _⟩ := h.ss hG e
    have := (h1.trans h3).le hG
    omega
theorem out_any {p : Paint} (h : p.any = true) : p.out.any = true := by
  obtain ⟨l, r, s⟩ := p
  cases l <;> cases r <;> cases s <;> first | rfl | cases h
def BestI (w0 wr : World) (b o m q N s1 g1 s2 g2 : Nat) (G : Gr) (a x : Nat) : Prop :=
  ∃ n v pt l pr done, PB w0 wr b o m q N s1 g1 s2 g2 n v pt l ((freshN pt (l.map Prod.fst) : Nat) : Int) (foundF pt done) done ∧ Inv G a x pr pt done (l.map Prod.fst) ∧ Full G pr done ∧ n + 1000 * cntF N done ≤ 10 + 1000 * N
theorem paint_look {w : World} {B b o m q N n : Nat} {v : Value} {pt : Nat → Paint} {l : List (Nat × Nat)} {fr : Int} (h : PaintS w B b o m q N n v pt l fr) (c : Nat) (hc : c < 65536) : (Instr.lookup 204 (.map (some m)) (.int .i64 (c : Nat)) false).run Tryz.prog w = .ok (.int .i64 (pcode (pt c) : Nat)) w := by
  obtain ⟨D, hD, hPD⟩ := h.map
  have hkey : keyOf Tryz.prog 3 (.int .i64 (c : Nat)) = some (keyI c) := keyOf_int_mk (k := 3) (P := Tryz.prog) Tryz.underlying3 (a := (c : Int)) (by exact WalkArith.wf_i64 (by omega))
  obtain ⟨u, hrun, hu, _⟩ := hD.lookup_int (int_keyed Tryz.underlying3) Tryz.underlying204 Tryz.underlying3 (zeroInt _) hkey
  rw [hPD.at_ c] at hu
  have : u = (pcode (pt c) : Int) := by cases hu; rfl
  rw [this] at hrun
  exact hrun
theorem both_no {p : Paint} (h : ¬ (p.l = true ∧ p.r = true)) : ((if p.l then (if p.r then (3 : Int) else 1) else (if p.r then 2 else 0)) == 3) = false := by
  obtain ⟨l, r, s⟩ := p
  cases l <;> cases r <;> first | rfl | exact absurd ⟨rfl, rfl⟩ h
def InnI (w0 wr : World) (b o m q N s1 g1 s2 g2 : Nat) (G : Gr) (a x c : Nat) (p : Paint) (ps : List Nat) (pr0 : Nat → List Nat) (done : Nat → Bool) (n0 : Nat) (pa : Option Addr) (j : Nat) : Prop :=
  ∃ v pt l pr, PB w0 wr b o m q N s1 g1 s2 g2 (n0 + j) v pt l ((freshN pt (l.map Prod.fst) : Nat) : Int) (foundF pt done) done ∧ Inv G a x pr pt done (l.map Prod.fst) ∧ pt c = p ∧ (∀ y, y ≠ c → pr y = pr0 y) ∧ pr c = ps.take j ∧ CellsAt wr pa (ps.flatMap natV) ∧ (∀ b' off, pa = some ⟨b', off, none⟩ → b' ∉ o :: m :: q :: v.ownBlock.toList ∧ b' < wr.heap.size)
set_option maxHeartbeats 8000000 in
set_option maxRecDepth 100000 in
theorem pBest {w0 w : World} {b o m q n k a x : Nat} {v : Value} {pt : Nat → Paint} {l : List (Nat × Nat)} {cs : List ComP} (hV : ViewAt w0 b cs k) (hz : TzOk w0) (hb0 : Below w0.heap.size w0 w) (h : PaintS w w0.heap.size b o m q cs.length n v pt l ((freshN pt (l.map Prod.fst) : Nat) : Int)) (hI : Inv (grC cs) a x (fun _ => []) pt (fun _ => false) (l.map Prod.fst)) (hn : n ≤ 10) (ha : a < cs.length) (hx : x < cs.length) :
    Calls Tryz.prog 116 #[.pointer (some ⟨o, 0, none⟩)] w fun e w' => ∃ val, e = .returned val ∧ OwnX 3 1 natV w' w0.heap.size val (listF (bestB (grC cs) a x) cs.length) ∧ Below w0.heap.size w0 w' := by
  have hG := hV.low
  have hfew := hV.parFew
  have hc12 := hV.few.1
  have HPar := Lib.hid (fun W (hb : Below w0.heap.size w0 W) n (hn : n < cs.length) => vParents (hV.below hb) hn)
  obtain ⟨G, hGG⟩ : ∃ G, grC cs = G := ⟨_, rfl⟩
  obtain ⟨N, hN⟩ : ∃ N, cs.length = N := ⟨_, rfl⟩
  rw [hGG] at hI hG hfew HPar ⊢
  rw [hN] at h ha hx hc12 HPar ⊢
  have HG := Lib.hid hG; have HFew := Lib.hid hfew; have HZ := Lib.hid hz; have HAX := Lib.hid (And.intro ha hx)
  obtain ⟨k0, k1, _, _, _, _⟩ := h.cells
  have HM := Lib.hid (fun W => mNew N (by omega) W)
  have HP0 := Lib.hid h; have HI0 := Lib.hid hI; have HB00 := Lib.hid hb0
  have hm1 := mvParents
  clear hV hz hb0 h hI hG hfew hGG hN ha hx
  go_enter Tryz.func116, Tryz.ntmps116
  go_wp2_with fail
  (with_reducible refine (HM.out w).mono ?_)
  rintro e w1 ⟨s1, g1, rfl, hm1', hs1, hg1, hb1⟩
  have k1' := bl_cell hb1 k1
  have HM1 := Lib.hid hm1'; have HB1 := Lib.hid hb1; have HSG1 := Lib.hid (And.intro hs1 hg1)
  clear hm1' hs1 hg1 hb1 k1
  go_wp2_with fail
  (with_reducible refine (HM.out w1).mono ?_)
  rintro e w2 ⟨s2, g2, rfl, hm2, hs2, hg2, hb2⟩
  have HS := Lib.hid (show BestI w0 w2 b o m q N s1 g1 s2 g2 G a x from by
    have q1 := HM1.out.lt
    have q2 := HSG1.out
    have hz1 := HB1.out.size
    have hl := HP0.out.lt
    have hz0 := HB00.out.size
    have key : ∀ j ∈ [s1, g1, s2, g2], w.heap.size ≤ j := fun j hj => by
      simp only [List.mem_cons, List.not_mem_nil, or_false] at hj
      rcases hj with rfl | rfl | rfl | rfl <;> omega
    refine ⟨n, v, pt, l, fun _ => [], fun _ => false, ⟨(HP0.out.below HB1.out).below hb2, ?_, hm2, fun j hj hm => ?_, ?_, fun j hj => by have := key j hj; omega, HB00.out.trans ((bl_trans HB1.out hb2).mono hz0)⟩, HI0.out, Inv.fullStart G, ?_⟩
    · have e : foundF pt (fun _ => false) = fun _ => false := by funext y; rfl
      rw [e]
      exact HM1.out.below hb2
    · have := key j hj
      have := hl j hm
      omega
    · have := HM1.out.ne
      have := hm2.ne
      simp only [List.nodup_cons, List.mem_cons, List.not_mem_nil, or_false, not_or]
      refine ⟨⟨?_, ?_, ?_⟩, ⟨?_, ?_⟩, ?_, ?_⟩ <;> first | omega | simp
    · have e : cntF N (fun _ => false) = N := by
        unfold cntF
        rw [List.countP_eq_length.2 (by simp), List.length_range]
      rw [e]
      omega)
  clear hm2 hs2 hg2 hb2 k0 k1' HM1 HSG1 HP0 HI0 HB1 HM
  go_wp2_with fail
  go_loopw [5] (fun _ wr => BestI w0 wr b o m q N s1 g1 s2 g2 G a x) (fun _ wr => cntW wr g2 N)
  case atStart => exact HS.out
  case round =>
    obtain ⟨n, v, pt, l, pr, done, hPB, hI, hF, hnb⟩ := hrel
    obtain ⟨wq, hwq⟩ : ∃ wq : World, wq = wr := ⟨_, rfl⟩
    subst hwq
    clear HS
    obtain ⟨z, hz⟩ : ∃ z, freshN pt (l.map Prod.fst) = z := ⟨_, rfl⟩
    rw [hz] at hPB
    obtain ⟨k0, k1, k2, k3, k4, k5⟩ := hPB.p.cells
    by_cases hz0 : z = 0
    · subst hz0
      have hfe := LgMath.found_end HG.out hI hF hz
      have HL := Lib.hid (mList hPB.f (HZ.out.below hPB.bel))
      rw [hfe] at HL
      have HB := Lib.hid hPB.bel
      clear hPB hI hF hnb hfe hz
      go_wp2_with fail
      (with_reducible refine HL.out.mono ?_)
      rintro e w9 ⟨val, rfl, ho, hb⟩
      have HE := Lib.hid (show OwnX 3 1 natV w9 w0.heap.size val (listF (bestB G a x) N) ∧ Below w0.heap.size w0 w9 from ⟨ho.mono HB.out.size, HB.out.trans (hb.mono HB.out.size)⟩)
      clear ho hb
      go_wp2
      go_ret
      exact ⟨_, rfl, HE.out⟩
    · have hzp : decide ((z : Int) > 0) = true := decide_eq_true (by omega)
      have hzp2 : decide (0 < z) = true := decide_eq_true (by omega)
      have hQ0 := fresh_pos (pt := pt) (Q := l.map Prod.fst) (by omega)
      have hl0 : 0 < l.length := List.length_pos_iff.2 (fun e => hQ0 (by rw [e]; rfl))
      have hsm : ∀ y ∈ l.map Prod.fst, y < N := fun y hy => inv_small HG.out hI HAX.out.1 HAX.out.2 ((hI.mem y).1 hy).1
      have hll : l.length ≤ N := by have := nodup_few hI.nd hsm; rwa [List.length_map] at this
      have HPo := Lib.hid (qbPop hPB.p.queue hl0 (by omega))
      have HPB := Lib.hid hPB; have HI := Lib.hid hI; have HF := Lib.hid hF; have HNB := Lib.hid hnb; have HSM := Lib.hid hsm; have HZZ := Lib.hid hz
      have hheap := hPB.p.queue.heap
      have HH := Lib.hid (fun y (hy : y ∈ l.map Prod.fst) => show y ≤ keyL l 0 from by
        obtain ⟨i, hi, rfl⟩ := key_of_mem hy
        exact heap_max hheap i hi)
      have hc0 : keyL l 0 ∈ l.map Prod.fst := key_mem hl0
      have hcN := hsm _ hc0
      obtain ⟨c, hc⟩ : ∃ c, keyL l 0 = c := ⟨_, rfl⟩
      rw [hc] at HPo HH hcN
      have HC := Lib.hid hc
      clear hPB hI hF hnb hsm hheap hz hc0 hQ0 hc
      go_wp2_with fail
      (with_reducible refine HPo.out.mono ?_)
      rintro e w3 ⟨rfl, v3, l3, hq3, hp3, hu3, hv3⟩
      rw [HC.out] at hp3
      have hP3 := HPB.out.p.turn hq3 hu3 (fun j e => .inl (by rw [← hv3]; exact e))
      have hU3 : Upd (fun j => j ∈ o :: m :: q :: v.ownBlock.toList) wq w3 := hu3.mono (fun j e => by
        rcases e with rfl | e
        · simp
        · simp [e])
      have hPB3 := HPB.out.turn hP3 hU3 (fun j e => .inl (by rw [← hv3]; exact e))
      have hI3 := HI.out.perm hp3
      obtain ⟨hI4, hdc, hany, hmin⟩ := hI3.pop (fun y hy => HH.out y (hp3.mem_iff.2 (by simp [hy])))
      have hfr : (if (pt c).s then 0 else 1) + freshN pt (l3.map Prod.fst) = z := by rw [← fresh_cons, ← fresh_perm hp3]; exact HZZ.out
      have hlk := paint_look hP3 c (by omega)
      obtain ⟨_, _, j2, j3, j4, j5⟩ := hP3.cells
      obtain ⟨p, hp⟩ : ∃ p, pt c = p := ⟨_, rfl⟩
      rw [hp] at hlk hfr hany
      have HMp := Lib.hid (mPut hPB3.d c hcN)
      rw [hdc] at HMp
      have HPB3 := Lib.hid hPB3; have HI4 := Lib.hid hI4; have HDC := Lib.hid hdc; have HANY := Lib.hid hany; have HMIN := Lib.hid hmin; have HP := Lib.hid hp; have HFR := Lib.hid hfr
      have HCNT := Lib.hid (show cntF N (upd done c true) + 1 = cntW wq g2 N from by rw [HPB.out.d.cnt]; exact (cnt_upd N).1 hcN hdc)
      have ha0 := pcode_stale p; have ha1 := pcode_both p; have ha2 := pcode_turn p
      have hprc : pr c = [] := hI3.undone hdc
      have HLL3 := Lib.hid (show (l3.map Prod.fst).length ≤ 65536 from by have := hp3.length_eq; simp only [List.length_map, List.length_cons] at this; rw [List.length_map]; omega)
      clear hq3 hp3 hu3 hv3 hP3 hU3 hPB3 hI3 hI4 hdc hany hmin hfr hp k0 k1 k2 k3 k4 k5 HPo
      have HPR := Lib.hid hprc
      clear hprc
      go_wp2_with fail
      (with_reducible refine HMp.out.mono ?_)
      rintro e w4 ⟨rfl, hm4, hu4⟩
      have hPB4 := HPB3.out.close hm4 hu4
      obtain ⟨_, _, _, _, i4, i5⟩ := hPB4.p.cells
      have HPB4 := Lib.hid hPB4
      clear hm4 hu4 hPB4 j2 j3 j4 j5 hlk
      obtain ⟨s0, hs0⟩ : ∃ t, p.s = t := ⟨_, rfl⟩
      rw [hs0] at ha0
      have HS0 := Lib.hid hs0
      clear hs0
      go_upto_region 8 with (fail)
      go_cut [47] from 21 to 82 (fun cv wr => cv = .bool (!s0) ∧ w4 = wr)
      case first =>
        cases s0
        · simp only [Bool.false_eq_true, if_false] at ha0
          go_wp2
          go_meet
          case rel => exact ⟨rfl, rfl⟩
        · simp only [if_true] at ha0
          go_wp2
          go_meet
          case rel => exact ⟨rfl, rfl⟩
      case rest =>
        obtain ⟨rfl, hwc⟩ := hcut
        rw [← hwc]
        clear hwc
        go_upto_if 47 with (fail)
        go_cut [8] from 21 to 82 (fun pv wr => pv = .int .i64 (pcode p.out : Nat) ∧ PB w0 wr b o m q N s1 g1 s2 g2 n v3 pt l3 ((freshN pt (l3.map Prod.fst) : Nat) : Int) (foundF pt (upd done c true)) (upd done c true))
        case first =>
          have hfe := found_done (pt := pt) HDC.out
          rw [HP.out] at hfe
          cases s0 with
          | true =>
            have HR := Lib.hid (show pcode p = pcode p.out ∧ PB w0 w4 b o m q N s1 g1 s2 g2 n v3 pt l3 ((freshN pt (l3.map Prod.fst) : Nat) : Int) (foundF pt (upd done c true)) (upd done c true) from by
              refine ⟨by rw [Paint.out_stale HS0.out], ?_⟩
              rw [hfe, HS0.out, Bool.not_true, Bool.and_false, if_neg (by simp)]
              have h1 := HFR.out
              rw [HS0.out, if_pos rfl, Nat.zero_add] at h1
              rw [h1]
              exact HPB4.out)
            clear hfe
            go_wp2
            go_meet
            case rel => exact ⟨by rw [HR.out.1], HR.out.2⟩
          | false =>
            have hz1 : freshN pt (l3.map Prod.fst) + 1 = z := by
              have h1 := HFR.out
              rw [HS0.out, if_neg (by simp)] at h1
              omega
            have hw1 : IntKind.i64.wrap ((z : Int) - 1) = (z : Int) - 1 := IntWalk.i64_in _ (by have := fresh_le (pt := pt) (Q := l3.map Prod.fst); have := HLL3.out; omega)
            have hw2 : wrap64 ((z : Int) - 1) = (z : Int) - 1 := IntWalk.wrap64_in _ (by have := fresh_le (pt := pt) (Q := l3.map Prod.fst); have := HLL3.out; omega)
            have hPB5 := HPB4.out.count ((z : Int) - 1)
            have hzi : (z : Int) - 1 = ((freshN pt (l3.map Prod.fst) : Nat) : Int) := by omega
            by_cases hb : p.l = true ∧ p.r = true
            · rw [hb.1, hb.2] at ha1
              simp only [if_true] at ha1
              have HMf := Lib.hid (mPut hPB5.f c hcN)
              have HO := Lib.hid (show pcode ⟨p.l, p.r, true⟩ = pcode p.out from by rw [Paint.out_both hb])
              have HFE := Lib.hid (show foundF pt (upd done c true) = upd (foundF pt done) c true from by rw [hfe, hb.1, hb.2, HS0.out]; rfl)
              have HPB5 := Lib.hid hPB5; have HZI := Lib.hid hzi
              clear hPB5 hzi hz1 hfe hb
              go_wp2_with fail
              (with_reducible refine HMf.out.mono ?_)
              rintro e w5 ⟨rfl, hm5, hu5⟩
              have HR := Lib.hid (show PB w0 w5 b o m q N s1 g1 s2 g2 n v3 pt l3 ((freshN pt (l3.map Prod.fst) : Nat) : Int) (foundF pt (upd done c true)) (upd done c true) from by
                rw [HFE.out, ← HZI.out]
                exact HPB5.out.find hm5 hu5)
              clear hm5 hu5
              go_wp2
              go_meet
              case rel => exact ⟨by rw [HO.out], HR.out⟩
            · have h3 : ((if p.l then (if p.r then (3 : Int) else 1) else (if p.r then 2 else 0)) == 3) = false := both_no hb
              rw [← ha1] at h3
              have HO := Lib.hid (show pcode p = pcode p.out from by rw [Paint.out_not hb])
              have HFE := Lib.hid (show foundF pt (upd done c true) = foundF pt done from by
                rw [hfe, if_neg]
                intro e
                rw [Bool.and_eq_true, Bool.and_eq_true] at e
                exact hb e.1)
              have HR := Lib.hid (show PB w0 (w4.setCell ⟨o, 4, none⟩ (.int .i64 ((z : Int) - 1))) b o m q N s1 g1 s2 g2 n v3 pt l3 ((freshN pt (l3.map Prod.fst) : Nat) : Int) (foundF pt (upd done c true)) (upd done c true) from by
                rw [HFE.out, ← hzi]
                exact hPB5)
              clear hPB5 hzi hz1 hfe hb ha1
              go_wp2
              go_meet
              case rel => exact ⟨by rw [HO.out], HR.out⟩
        case rest =>
          obtain ⟨rfl, hPB5⟩ := hcut
          obtain ⟨w5, hw5⟩ : ∃ w5 : World, w5 = wc := ⟨_, rfl⟩
          subst hw5
          clear i4 i5 ha0 ha1 ha2
          obtain ⟨k0, _, _, _, _, _⟩ := hPB5.p.cells
          unfold viewV at k0
          have HPc := Lib.hid (HPar.out w5 hPB5.bel c hcN)
          have HPB5 := Lib.hid hPB5
          clear hPB5 HPB4
          go_wp2_with fail
          (with_reducible refine HPc.out.mono ?_)
          rintro e wp ⟨pa, pc, rfl, ho, hbp⟩
          obtain ⟨pa', pc', e1, hpc, _, _, hob, _⟩ := ho.sl
          obtain ⟨rfl, _, rfl⟩ := Value.slice.inj e1
          have hps1 := HFew.out c
          have HPS := Lib.hid (fun y (hy : y ∈ par G c) => HG.out c y hy)
          have HPI := Lib.hid (show ∀ y ∈ par G c, y ∈ par G c from fun y hy => hy)
          obtain ⟨ps, hps⟩ : ∃ ps, par G c = ps := ⟨_, rfl⟩
          have HST := Lib.hid (show InnI w0 wp b o m q N s1 g1 s2 g2 G a x c p ps pr (upd done c true) n pa 0 from
            ⟨v3, pt, l3, pr, HPB5.out.below hbp, HI4.out, HP.out, fun y _ => rfl, HPR.out, by rw [← hps]; exact hpc, fun b' off e => by
              have h1 := ho.lt b' (hob b' off e)
              refine ⟨fun hm => ?_, h1.2⟩
              have h2 := HPB5.out.p.lt b' hm
              omega⟩)
          rw [hps] at hps1 HPS HPI ⊢
          have HPSS := Lib.hid hps
          clear ho hbp hpc hob e1 HPc hps k0
          go_wp2_with fail
          go_loopw [70] (fun iv wr => ∃ j : Nat, j ≤ ps.length ∧ iv = .int .i64 j ∧ InnI w0 wr b o m q N s1 g1 s2 g2 G a x c p ps pr (upd done c true) n pa j) (fun iv _ => ps.length - (intOf iv).toNat)
          case atStart => exact ⟨0, Nat.zero_le _, rfl, HST.out⟩
          case round =>
            obtain ⟨j, hj, rfl, v4, pt4, l4, pr4, hPB, hI, hpc4, hpre, hprc, hcel, hap⟩ := hrel
            obtain ⟨wy, hwy⟩ : ∃ wy : World, wy = wr := ⟨_, rfl⟩
            subst hwy
            clear HST
            by_cases hjl : j < ps.length
            · obtain ⟨rb, ro, rfl, c0⟩ := nat_at hcel hjl
              have hmem : ps.getD j 0 ∈ ps := by rw [List.getD_eq_getElem?_getD, List.getElem?_eq_getElem hjl]; exact List.getElem_mem hjl
              have hupc := HPS.out _ hmem
              have hupp : ps.getD j 0 ∈ par G c := by rw [HPSS.out]; exact hmem
              obtain ⟨hI5, hud⟩ := hI.add HG.out (c := c) (upd_same _ _ _) HMIN.out hupp
              rw [hpc4] at hI5
              have htk : ps.take (j + 1) = ps.take j ++ [ps.getD j 0] := by rw [List.take_succ_eq_append_getElem hjl, List.getD_eq_getElem?_getD, List.getElem?_eq_getElem hjl]; rfl
              obtain ⟨up, hup⟩ : ∃ up, ps.getD j 0 = up := ⟨_, rfl⟩
              rw [hup] at c0 hupc hI5 hud htk
              have hupN : up < N := by omega
              have HH := Lib.hid (mHas hPB.d up hupN)
              rw [hud] at HH
              have hsm : ∀ y ∈ l4.map Prod.fst, y < N := fun y hy => inv_small HG.out hI HAX.out.1 HAX.out.2 ((hI.mem y).1 hy).1
              have hll : l4.length ≤ N := by have := nodup_few hI.nd hsm; rwa [List.length_map] at this
              have hfrl : freshN pt4 (l4.map Prod.fst) ≤ N := by have := fresh_le (pt := pt4) (Q := l4.map Prod.fst); rw [List.length_map] at this; omega
              have hnn : n + j ≤ 2000000 := by have := HNB.out; omega
              have HAd := Lib.hid (pAdd hPB.p up hupN p.out (out_any HANY.out) (by omega) (by omega) hnn (by omega))
              have HNX := Lib.hid (show ∀ w' v' l', PaintS w' w0.heap.size b o m q N (n + j + 1) v' (upd pt4 up ((pt4 up).or p.out)) l' (((freshN pt4 (l4.map Prod.fst) : Nat) : Int) + deltaP (pt4 up) p.out) → (l'.map Prod.fst).Perm (if (pt4 up).any then l4.map Prod.fst else l4.map Prod.fst ++ [up]) → Upd (fun j => j ∈ o :: m :: q :: v4.ownBlock.toList) wy w' → (∀ j, v'.ownBlock = some j → v4.ownBlock = some j ∨ wy.heap.size ≤ j) → InnI w0 w' b o m q N s1 g1 s2 g2 G a x c p ps pr (upd done c true) n (some ⟨rb, ro, none⟩) (j + 1) from fun w' v' l' q1 q2 q3 q4 => by
                have hne : c ≠ up := by omega
                refine ⟨v', _, l', upd pr4 c (pr4 c ++ [up]), ?_, hI5.perm q2.symm, by rw [upd_other _ _ hne]; exact hpc4, fun y hy => by rw [upd_other _ _ hy]; exact hpre y hy, by rw [upd_same, hprc, htk], hcel.stays (fun b' off e _ => q3.block b' (hap b' off e).2 (hap b' off e).1) q3.size, fun b' off e => ⟨fun hm => ?_, Nat.lt_of_lt_of_le (hap b' off e).2 q3.size⟩⟩
                · rw [fresh_perm q2, fresh_delta hI hud, found_paint hud]
                  exact hPB.turn q1 q3 q4
                · obtain ⟨r1, r2⟩ := hap b' off e
                  simp only [List.mem_cons, Option.mem_toList, not_or] at r1 hm
                  rcases hm with e2 | e2 | e2 | e2
                  · exact r1.1 e2
                  · exact r1.2.1 e2
                  · exact r1.2.2.1 e2
                  · rcases q4 b' e2 with e3 | e3
                    · exact r1.2.2.2 e3
                    · omega)
              clear hPB hI hI5 hud hpc4 hpre hprc hcel hap hmem hupp htk hup hsm hfrl
              go_wp2_with fail
              (with_reducible refine HH.out.mono ?_)
              rintro e w6 ⟨rfl, rfl⟩
              go_wp2_with fail
              (with_reducible refine HAd.out.mono ?_)
              rintro e w7 ⟨rfl, v', l', q1, q2, q3, q4⟩
              have HN := Lib.hid (HNX.out w7 v' l' q1 q2 q3 q4)
              clear q1 q2 q3 q4
              go_wp2
              go_roundw
              case rel => exact ⟨j + 1, by omega, by go_num, HN.out⟩
              case measure => simp [intOf]; omega
            · obtain rfl : j = ps.length := by omega
              have HN := Lib.hid (show BestI w0 wy b o m q N s1 g1 s2 g2 G a x ∧ cntW wy g2 N < cntW wq g2 N from by
                refine ⟨⟨_, v4, pt4, l4, pr4, upd done c true, hPB, hI, ?_, ?_⟩, ?_⟩
                · refine Full.close (pr := pr) HF.out HDC.out hpre (fun y hy => ?_)
                  rw [hprc, List.take_of_length_le (Nat.le_refl _), ← HPSS.out]
                  exact hy
                · have := HNB.out
                  have := HCNT.out
                  have := (cnt_upd (f := done) N).1 hcN HDC.out
                  omega
                · rw [hPB.d.cnt]
                  have := HCNT.out
                  omega)
              clear hPB hI hpc4 hpre hprc hcel hap
              go_wp2
              go_roundw
              case rel => exact HN.out.1
              case measure => exact HN.out.2
end Go.Proofs.YtbhfbdcmamodcaaGreatDoor
namespace Go.Proofs.YtbhfbdcmamodcaaGreatDoor
open Go.RowKit Go.Maps LgMath
def painL : Paint := ⟨true, false, false⟩
def painR : Paint := ⟨false, true, false⟩
theorem paintD_nil : PaintD (.map [] : DataW Unit) (fun _ => Paint.none) := ⟨Maps.tidy_empty, fun y => rfl, fun y => rfl⟩
theorem paint_two (a x : Nat) : upd (upd (fun _ => Paint.none) a (Paint.none.or painL)) x ((upd (fun _ => Paint.none) a (Paint.none.or painL) x).or painR) = paint0 a x := by
  funext y
  unfold paint0
  by_cases e : y = x
  · subst e
    rw [upd_same]
    by_cases e2 : y = a
    · subst e2; rw [upd_same]; simp [Paint.or, Paint.none, painL, painR]
    · rw [upd_other _ _ e2]; simp [Paint.or, Paint.none, painR, e2]
  · rw [upd_other _ _ e]
    by_cases e2 : y = a
    · subst e2; rw [upd_same]; simp [Paint.or, Paint.none, painL, e]
    · rw [upd_other _ _ e2]; simp [Paint.none, e, e2]
theorem wait_two (a x : Nat) : (if (upd (fun _ => Paint.none) a (Paint.none.or painL) x).any then [a] else [a] ++ [x]) = wait0 a x := by
  unfold wait0
  by_cases e : x = a
  · subst e; rw [upd_same]; simp [Paint.or, Paint.none, painL, Paint.any]
  · have e2 : ¬ a = x := fun h => e h.symm
    rw [upd_other _ _ e, if_neg e2]; simp [Paint.none, Paint.any]
theorem delta_one : deltaP Paint.none painL = 1 := by decide
theorem delta_two (a x : Nat) : (1 : Int) + deltaP (upd (fun _ => Paint.none) a (Paint.none.or painL) x) painR = ((freshN (paint0 a x) (wait0 a x) : Nat) : Int) := by
  rw [fresh_start]
  unfold wait0
  by_cases e : x = a
  · subst e
    rw [upd_same, if_pos rfl]
    have h : deltaP (Paint.none.or painL) painR = 0 := by decide
    rw [h]
    rfl
  · have e2 : ¬ a = x := fun h => e h.symm
    rw [upd_other _ _ e, if_neg e2]
    have h : deltaP Paint.none painR = 1 := by decide
    rw [h]
    rfl
theorem pcL : ((pcode painL : Nat) : Int) = 1 := by decide
theorem pcR : ((pcode painR : Nat) : Int) = 2 := by decide
def SideOne (w wr : World) (b o m q N a : Nat) : Prop := ∃ v l, PaintS wr w.heap.size b o m q N 1 v (upd (fun _ => Paint.none) a (Paint.none.or painL)) l 1 ∧ l.map Prod.fst = [a] ∧ Below w.heap.size w wr
def SideTwo (w wr : World) (b o m q N a x : Nat) : Prop := ∃ v l, PaintS wr w.heap.size b o m q N 2 v (paint0 a x) l ((freshN (paint0 a x) (l.map Prod.fst) : Nat) : Int) ∧ (l.map Prod.fst).Perm (wait0 a x) ∧ Below w.heap.size w wr
theorem side_one {w W wr : World} {b o m q N a : Nat} (h : PaintSaid W w.heap.size b o m q N 0 (.slice none 0 0) (fun _ => Paint.none) [] 0 a painL wr) (hP : PaintS W w.heap.size b o m q N 0 (.slice none 0 0) (fun _ => Paint.none) [] 0) (hb : Below w.heap.size w W) : SideOne w wr b o m q N a := by
  obtain ⟨v, l, h1, h2, h3, h4⟩ := h
  rw [delta_one] at h1
  refine ⟨v, l, h1, List.perm_singleton.1 h2, hb.trans (h3.below hP.low hb.size)⟩
theorem side_two {w W wr : World} {b o m q N a x : Nat} {v : Value} {l : List (Nat × Nat)} (hP : PaintS W w.heap.size b o m q N 1 v (upd (fun _ => Paint.none) a (Paint.none.or painL)) l 1) (hl : l.map Prod.fst = [a]) (h : PaintSaid W w.heap.size b o m q N 1 v (upd (fun _ => Paint.none) a (Paint.none.or painL)) l 1 x painR wr) (hb : Below w.heap.size w W) : SideTwo w wr b o m q N a x := by
  obtain ⟨v', l', h1, h2, h3, h4⟩ := h
  rw [delta_two, paint_two] at h1
  rw [hl, wait_two] at h2
  exact ⟨v', l', by rw [fresh_perm h2]; exact h1, h2, hb.trans (h3.below hP.low hb.size)⟩
set_option maxHeartbeats 4000000 in
set_option maxRecDepth 100000 in
theorem pSides {w : World} {b k a x : Nat} {cs : List ComP} (hV : ViewAt w b cs k) (hz : TzOk w) (ha : a < cs.length) (hx : x < cs.length) (la ra : Option Addr) (lc rc : Nat) (hla : CellsAt w la ([a].flatMap natV)) (hra : CellsAt w ra ([x].flatMap natV)) :
    Calls Tryz.prog 52 #[viewV b, .slice la 1 lc, .slice ra 1 rc] w fun e w' => ∃ val, e = .returned (.tuple #[val, .int .i64 0]) ∧ OwnX 3 1 natV w' w.heap.size val (listF (bestB (grC cs) a x) cs.length) ∧ Below w.heap.size w w' := by
  have hc12 := hV.few.1
  obtain ⟨W1, hW1⟩ : ∃ W1, w.alloc (.cells #[.slice la 1 lc, .slice ra 1 rc] 42) = W1 := ⟨_, rfl⟩
  have hb1 : Below w.heap.size w W1 := by rw [← hW1]; exact bl_alloc (Below.refl _ _) _
  have hs1 : W1.heap[w.heap.size]? = some (.cells #[.slice la 1 lc, .slice ra 1 rc] 42 (0, 0)) := by rw [← hW1]; exact heap_alloc_new _ _
  have hGA : GAt W1 (some ⟨w.heap.size, 0, none⟩) [[a], [x]] := ⟨[(.slice la 1 lc, [a]), (.slice ra 1 rc, [x])], rfl, fun j v hj => by
    have hj0 : j < 2 := by have := (List.getElem?_eq_some_iff.1 hj).1; simpa [gRowV] using this
    refine ⟨_, _, rfl, (Array.getElem?_eq_some_iff.1 hs1).1, ?_⟩
    rw [cell_of_row _ _ _ _ _ _ hs1, Nat.zero_add]
    have hj1 : j = 0 ∨ j = 1 := by omega
    rcases hj1 with rfl | rfl <;> exact hj, fun y hy => by
    simp only [List.mem_cons, List.not_mem_nil, or_false] at hy
    rcases hy with rfl | rfl
    · exact ⟨_, _, rfl, hla.below hb1⟩
    · exact ⟨_, _, rfl, hra.below hb1⟩⟩
  have HA := Lib.hid (show Calls Tryz.prog 112 #[viewV b, .slice (some ⟨w.heap.size, 0, none⟩) 2 2] W1 fun e w' => e = .returned (.int .i64 0) ∧ w' = W1 from bAsked (hV.below hb1) (some ⟨w.heap.size, 0, none⟩) 2 [[a], [x]] (by simp) hGA (fun c y hy => by
    unfold par at hy
    match c with
    | 0 => simp at hy; subst hy; exact ha
    | 1 => simp at hy; subst hy; exact hx
    | c + 2 => simp at hy) (fun c => by
    unfold par
    match c with
    | 0 => simp
    | 1 => simp
    | c + 2 => simp))
  have HC := Lib.hid (bCommits (hV.below hb1))
  have HQ := Lib.hid (fun W => qbNew W)
  have HB := Lib.hid (fun (W : World) (o m q n : Nat) (v : Value) (l : List (Nat × Nat)) (hb0 : Below w.heap.size w W) (h : PaintS W w.heap.size b o m q cs.length n v (paint0 a x) l ((freshN (paint0 a x) (l.map Prod.fst) : Nat) : Int)) (hI : Inv (grC cs) a x (fun _ => []) (paint0 a x) (fun _ => false) (l.map Prod.fst)) (hn : n ≤ 10) => pBest hV hz hb0 h hI hn ha hx)
  have HLA := Lib.hid hla; have HRA := Lib.hid hra; have HW1 := Lib.hid hW1; have HB1 := Lib.hid hb1
  have HI := Lib.hid (Inv.start (grC cs) a x)
  obtain ⟨G, hGG⟩ : ∃ G, grC cs = G := ⟨_, rfl⟩
  obtain ⟨N, hN⟩ : ∃ N, cs.length = N := ⟨_, rfl⟩
  rw [hGG] at HB HI ⊢
  rw [hN] at HB HC hc12 ha hx ⊢
  have HAX := Lib.hid (And.intro ha hx)
  have hmk : ∀ W : World, (Instr.makeMap 204 none).run Tryz.prog W = .ok (.map (some W.heap.size)) (W.alloc (.map #[] 0)) := fun W => by kernel_rfl
  clear hV hz hla hra hW1 hb1 hs1 hGA ha hx hGG hN
  unfold viewV at HA HC ⊢
  go_enter Tryz.func52, Tryz.ntmps52
  go_wp2_with fail
  rw [HW1.out]
  (with_reducible refine HA.out.mono ?_)
  rintro e w2 ⟨rfl, hw2⟩
  rw [hw2]
  clear hw2
  go_wp2_with fail
  (with_reducible refine HC.out.mono ?_)
  rintro e w3 ⟨rfl, hw3⟩
  rw [hw3]
  clear hw3
  obtain ⟨W2, hW2⟩ : ∃ W2, W1.alloc (.map #[] 0) = W2 := ⟨_, rfl⟩
  have hb2 : Below W1.heap.size W1 W2 := by rw [← hW2]; exact bl_alloc (Below.refl _ _) _
  have hmap : W2.ownsMap Tryz.prog 3 (plainElem (H := Unit) Tryz.prog 3) W1.heap.size 0 (.map []) := by rw [← hW2]; exact World.ownsMap_made W1 _ _ _
  have HW2 := Lib.hid hW2
  go_wp2_with fail
  (with_reducible refine (HQ.out W2).mono ?_)
  rintro e w4 ⟨q, rfl, hq4, hqz, hb4⟩
  obtain ⟨W5, hW5⟩ : ∃ W5, w4.alloc (.cells #[viewV b, .int .i64 (N : Nat), .map (some W1.heap.size), .pointer (some ⟨q, 0, none⟩), .int .i64 0] 209) = W5 := ⟨_, rfl⟩
  have hb5 : Below w4.heap.size w4 W5 := by rw [← hW5]; exact bl_alloc (Below.refl _ _) _
  have hs5 : W5.heap[w4.heap.size]? = some (.cells #[viewV b, .int .i64 (N : Nat), .map (some W1.heap.size), .pointer (some ⟨q, 0, none⟩), .int .i64 0] 209 (0, 0)) := by rw [← hW5]; exact heap_alloc_new _ _
  have hz1 := HB1.out.size
  have hz2 : W2.heap.size = W1.heap.size + 1 := by rw [← hW2]; simp
  have hz4 := hb4.size
  have hql := hq4.lt.1
  have hP0 : PaintS W5 w.heap.size b w4.heap.size W1.heap.size q N 0 (.slice none 0 0) (fun _ => Paint.none) [] 0 := ⟨hs5, ⟨_, map_stays hmap ((hb5.block _ (by omega)).trans (hb4.block _ (by omega))), paintD_nil⟩, hq4.below hb5, by
    simp [Value.ownBlock]
    omega, fun j hj => by
    simp [Value.ownBlock] at hj
    omega⟩
  have hb05 : Below w.heap.size w W5 := bl_trans (bl_trans (bl_trans HB1.out hb2) hb4) hb5
  have HP0 := Lib.hid hP0; have HB05 := Lib.hid hb05; have HW5 := Lib.hid hW5
  clear hb2 hmap hW2 hq4 hqz hb4 hW5 hb5 hs5 hz1 hz2 hz4 hql hP0 hb05
  unfold viewV at HW5
  go_upto_region 5 with (fail)
  rw [HW5.out]
  clear HW5
  generalize w4.heap.size = o at *
  generalize W1.heap.size = m at *
  go_wp2_with fail
  go_loopw [31] (fun iv wr => ∃ i : Nat, i ≤ 1 ∧ iv = .int .i64 i ∧ ((i = 0 ∧ W5 = wr) ∨ (i = 1 ∧ SideOne w wr b o m q N a))) (fun iv _ => 1 - (intOf iv).toNat)
  case atStart => exact ⟨0, by omega, rfl, .inl ⟨rfl, rfl⟩⟩
  case round =>
    obtain ⟨i, hi, rfl, hc⟩ := hrel
    rcases hc with ⟨rfl, rfl⟩ | ⟨rfl, hone⟩
    · obtain ⟨rb, ro, rfl, c0⟩ := nat_at (HLA.out.below HB05.out) (j := 0) (by simp)
      rw [Nat.add_zero, show ([a] : List Nat).getD 0 0 = a from rfl] at c0
      have hAd := pAdd HP0.out a HAX.out.1 painL rfl (by simp) (by omega) (by omega) (by omega)
      rw [pcL] at hAd
      have HAd := Lib.hid hAd
      clear hAd
      go_wp2_with fail
      (with_reducible refine HAd.out.mono ?_)
      rintro e w6 ⟨rfl, hp6⟩
      have HS := Lib.hid (side_one hp6 HP0.out HB05.out)
      clear hp6
      go_wp2
      go_roundw
      case rel => exact ⟨1, by omega, by go_num, .inr ⟨rfl, HS.out⟩⟩
      case measure => simp [intOf]
    · have HS := Lib.hid hone
      clear hone HP0
      obtain ⟨wy, hwy⟩ : ∃ wy : World, wy = wr := ⟨_, rfl⟩
      subst hwy
      rw [show ((1 : Nat) : Int) = 1 from rfl]
      go_wp2_with fail
      go_loopw [41] (fun iv wr => ∃ i : Nat, i ≤ 1 ∧ iv = .int .i64 i ∧ ((i = 0 ∧ wy = wr) ∨ (i = 1 ∧ SideTwo w wr b o m q N a x))) (fun iv _ => 1 - (intOf iv).toNat)
      case atStart => exact ⟨0, by omega, rfl, .inl ⟨rfl, rfl⟩⟩
      case round =>
        obtain ⟨i, hi, rfl, hc⟩ := hrel
        rcases hc with ⟨rfl, rfl⟩ | ⟨rfl, htwo⟩
        · obtain ⟨v, l, hP, hl, hb⟩ := HS.out
          obtain ⟨rb, ro, rfl, c0⟩ := nat_at (HRA.out.below hb) (j := 0) (by simp)
          rw [Nat.add_zero, show ([x] : List Nat).getD 0 0 = x from rfl] at c0
          have hll : l.length ≤ 100000 := by have := congrArg List.length hl; simp at this; omega
          have hAd := pAdd hP x HAX.out.2 painR rfl hll (by omega) (by omega) (by omega)
          rw [pcR] at hAd
          have HAd := Lib.hid hAd
          have HTW := Lib.hid (fun (W : World) (h : PaintSaid wy w.heap.size b o m q N 1 v (upd (fun _ => Paint.none) a (Paint.none.or painL)) l 1 x painR W) => side_two hP hl h hb)
          clear hAd hP hl hb
          go_wp2_with fail
          (with_reducible refine HAd.out.mono ?_)
          rintro e w7 ⟨rfl, hp7⟩
          have HT := Lib.hid (HTW.out w7 hp7)
          clear hp7
          go_wp2
          go_roundw
          case rel => exact ⟨1, by omega, by go_num, .inr ⟨rfl, HT.out⟩⟩
          case measure => simp [intOf]
        · obtain ⟨v, l, hP, hl, hb⟩ := htwo
          have HBs := Lib.hid (HB.out wr o m q 2 v l hb hP (HI.out.perm hl.symm) (by omega))
          clear hP hl hb
          go_wp2_with fail
          (with_reducible refine HBs.out.mono ?_)
          rintro e w8 ⟨val, rfl, ho, hb8⟩
          have HE := Lib.hid (And.intro ho hb8)
          clear ho hb8
          go_wp2
          exact bodyPost_ret (v := .tuple #[val, .int .i64 0]) (by simp [results, Tryz.results52, go_sem]) rfl ⟨_, rfl, HE.out.1, HE.out.2⟩
set_option maxHeartbeats 1000000 in
set_option maxRecDepth 100000 in
theorem pMerge {w : World} {b k a x : Nat} {cs : List ComP} (hV : ViewAt w b cs k) (hz : TzOk w) (ha : a < cs.length) (hx : x < cs.length) :
    Calls Tryz.prog 23 #[viewV b, .int .i64 (a : Nat), .int .i64 (x : Nat)] w fun e w' => ∃ val, e = .returned (.tuple #[val, .int .i64 0]) ∧ OwnX 3 1 natV w' w.heap.size val (listF (bestB (grC cs) a x) cs.length) ∧ Below w.heap.size w w' := by
  obtain ⟨W1, hW1⟩ : ∃ W1, w.alloc (.cells #[.int .i64 (a : Nat)] 3) = W1 := ⟨_, rfl⟩
  obtain ⟨W2, hW2⟩ : ∃ W2, W1.alloc (.cells #[.int .i64 (x : Nat)] 3) = W2 := ⟨_, rfl⟩
  have hb1 : Below w.heap.size w W1 := by rw [← hW1]; exact bl_alloc (Below.refl _ _) _
  have hb2 : Below W1.heap.size W1 W2 := by rw [← hW2]; exact bl_alloc (Below.refl _ _) _
  have hz1 : W1.heap.size = w.heap.size + 1 := by rw [← hW1]; simp
  have hb12 := bl_trans hb1 hb2
  have h1 := one_new w a
  have h2 := one_new W1 x
  rw [hW1] at h1
  rw [hW2, hz1] at h2
  have HS := Lib.hid (pSides (hV.below hb12) (hz.below hb12) ha hx (some ⟨w.heap.size, 0, none⟩) (some ⟨w.heap.size + 1, 0, none⟩) 1 1 (h1.below hb2) h2)
  have HW1 := Lib.hid hW1; have HW2 := Lib.hid hW2; have HB := Lib.hid hb12
  clear hV hz hW1 hW2 hb1 hb2 hz1 hb12 h1 h2 ha hx
  unfold viewV at HS ⊢
  go_enter Tryz.func23, Tryz.ntmps23
  go_wp2_with fail
  rw [HW1.out, HW2.out]
  (with_reducible refine HS.out.mono ?_)
  rintro e w3 ⟨val, rfl, ho, hb3⟩
  have HE := Lib.hid (show OwnX 3 1 natV w3 w.heap.size val (listF (bestB (grC cs) a x) cs.length) ∧ Below w.heap.size w w3 from ⟨ho.mono HB.out.size, bl_trans HB.out hb3⟩)
  clear ho hb3
  go_wp2
  exact bodyPost_ret (v := .tuple #[val, .int .i64 0]) (by simp [results, Tryz.results23, go_sem]) rfl ⟨_, rfl, HE.out.1, HE.out.2⟩
end Go.Proofs.YtbhfbdcmamodcaaGreatDoor
namespace Go.Proofs.YtbhfbdcmamodcaaGreatDoor
open Go.RowKit LgMath
def boolV (b : Bool) : List Value := [.bool b]
theorem boolW : Wide boolV 1 := fun _ => rfl
def boolL (f : Nat → Bool) (N : Nat) : List Bool := (List.range N).map f
theorem boolL_len (f : Nat → Bool) (N : Nat) : (boolL f N).length = N := by simp [boolL]
theorem boolL_get {f : Nat → Bool} {N i : Nat} (h : i < (boolL f N).length) : (boolL f N)[i] = f i := by simp [boolL]
theorem boolL_set (f : Nat → Bool) (N i : Nat) (t : Bool) : (boolL f N).set i t = boolL (upd f i t) N := by
  apply List.ext_getElem
  · simp [boolL]
  · intro j h1 h2
    rw [List.getElem_set, boolL_get (f := upd f i t) h2]
    by_cases e : i = j
    · subst e; rw [if_pos rfl, upd_same]
    · rw [if_neg e, upd_other _ _ (fun h => e h.symm), boolL_get]
def BoolsAt (w : World) (B g N : Nat) (f : Nat → Bool) : Prop := OwnX 4 1 boolV w B (.slice (some ⟨g, 0, none⟩) N N) (boolL f N)
section
variable {w w' : World} {B g N i : Nat} {f : Nat → Bool}
theorem BoolsAt.below (h : BoolsAt w B g N f) (hb : Below w.heap.size w w') : BoolsAt w' B g N f := OwnX.below h hb
theorem BoolsAt.lt (h : BoolsAt w B g N f) : B ≤ g ∧ g < w.heap.size := OwnX.lt h g rfl
theorem BoolsAt.cell (h : BoolsAt w B g N f) (hi : i < N) : w.cell? ⟨g, i, none⟩ = some (.bool (f i)) ∧ w.frozen? ⟨g, i, none⟩ = false := by
  obtain ⟨a, c, e, hc, _⟩ := OwnX.sl h
  obtain ⟨rfl, _, _⟩ := Value.slice.inj e
  have hl : i < (boolL f N).length := by rw [boolL_len]; exact hi
  obtain ⟨b, off, e1, _, e3⟩ := hc.elem boolW hl (by decide)
  cases e1
  have h0 := e3 0 _ rfl
  rw [Nat.mul_one, Nat.add_zero, Nat.zero_add, boolL_get hl] at h0
  exact ⟨h0, OwnX.free h i⟩
theorem BoolsAt.put (h : BoolsAt w B g N f) (hi : i < N) (t : Bool) : BoolsAt (w.setCell ⟨g, i, none⟩ (.bool t)) B g N (upd f i t) := by
  have hl := boolL_len f N
  have h1 := (OwnX.put (l := boolL f N) boolW (by rw [hl]; exact h) (i := i) (by rw [hl]; exact hi) 0 (by decide) (.bool t) t rfl).1
  rw [Nat.mul_one, Nat.add_zero, hl, boolL_set] at h1
  exact h1
theorem infoBoolL : (Tryz.prog.info? 4).map (fun i => (i.zero, i.size, i.bytes)) = some (some (.bool false), 1, 1) := by kernel_rfl
theorem bools_nil (n : Nat) : List.replicate n (Value.bool false) = (boolL (fun _ => false) n).flatMap boolV := by
  unfold boolL
  rw [List.flatMap_map]
  induction n with
  | zero => rfl
  | succ n ih => rw [List.replicate_succ', List.range_succ, List.flatMap_append, ← ih]; rfl
theorem bools_made (w : World) (N : Nat) (hN : N ≤ 1000000) : ∃ w2, (Instr.makeSlice 61 (.int .i64 (N : Int)) (.int .i64 (N : Int))).run Tryz.prog w = .ok (.slice (some ⟨w.heap.size, 0, none⟩) N N) w2 ∧ BoolsAt w2 w.heap.size w.heap.size N (fun _ => false) ∧ Below w.heap.size w w2 := by
  obtain ⟨j0, hj, hy0, hy1, hy2⟩ := info_parts infoBoolL
  have hzc : (madeCells (Value.bool false).cells (N * 1)).toList = (boolL (fun _ => false) N).flatMap boolV := by rw [Nat.mul_one]; exact (toList_madeCells_one _ N).trans (bools_nil N)
  obtain ⟨w2, hmk, hown2, hg2⟩ := run_make_full (P := Tryz.prog) w w.heap.size 61 4 j0 (.bool false) 1 Tryz.underlying61 hj hy0 hy1 .i64 .i64 N (by rw [hy2]; omega) (by unfold maxLen; omega) (Nat.le_refl _)
  rw [hzc] at hown2
  refine ⟨w2, hmk, ?_, made_below hg2 (fun g h => by cases h)⟩
  unfold BoolsAt OwnX
  rw [boolL_len]
  exact hown2
end
end Go.Proofs.YtbhfbdcmamodcaaGreatDoor
namespace Go.Proofs.YtbhfbdcmamodcaaGreatDoor
open Go.RowKit LgMath
noncomputable def upF (G : Gr) (a c i y : Nat) : Bool := ancAB G (c + 1) a y || decide (y ∈ (par G c).take i)
theorem upF_none (G : Gr) (a c : Nat) : upF G a c 0 = ancAB G (c + 1) a := by funext y; unfold upF; simp
theorem upF_next {G : Gr} {a c i : Nat} (hi : i < (par G c).length) : upd (upF G a c i) ((par G c).getD i 0) true = upF G a c (i + 1) := by
  have e0 : (par G c).getD i 0 = (par G c)[i] := by rw [List.getD_eq_getElem?_getD, List.getElem?_eq_getElem hi]; rfl
  have hm : ∀ y, y ∈ (par G c).take (i + 1) ↔ y ∈ (par G c).take i ∨ y = (par G c)[i] := fun y => by rw [List.take_succ_eq_append_getElem hi, List.mem_append, List.mem_singleton]
  funext y
  unfold upF
  rw [e0]
  by_cases e : y = (par G c)[i]
  · subst e
    rw [upd_same, decide_eq_true ((hm _).2 (.inr rfl)), Bool.or_true]
  · rw [upd_other _ _ e]
    congr 1
    rw [decide_eq_decide, hm]
    exact ⟨.inl, fun h => h.resolve_right e⟩
theorem upF_all {G : Gr} {a c : Nat} (hG : LowG G) (h : ancAB G (c + 1) a c = true) : upF G a c (par G c).length = ancAB G c a := by
  funext y
  unfold upF
  rw [List.take_length, ancAB_step (c := c) hG, h, Bool.true_and]
theorem up_skip {G : Gr} {a c : Nat} (hG : LowG G) (h : ancAB G (c + 1) a c = false) : ancAB G (c + 1) a = ancAB G c a := by
  funext y
  rw [ancAB_step (c := c) hG, h, Bool.false_and, Bool.or_false]
theorem up_start {G : Gr} {a t : Nat} (hG : LowG G) (h : a < t) : upd (fun _ => false) a true = ancAB G t a := by
  funext y
  rw [ancAB_start hG h]
  by_cases e : y = a
  · subst e; rw [upd_same]; simp
  · rw [upd_other _ _ e]; simp; exact fun h => e h.symm
theorem up_end (G : Gr) (a : Nat) : ancAB G 0 a = ancB G a := by funext y; exact ancAB_all
set_option maxHeartbeats 4000000 in
set_option maxRecDepth 100000 in
theorem rUp {w : World} {ga : Option Addr} {gc a : Nat} {G : Gr} (hG : GAt w ga G) (hL : LowG G) (ha : a < G.length) (hN : G.length ≤ 2000) (hrl : ∀ c, (par G c).length ≤ 1000) :
    Calls Tryz.prog 21 #[.slice ga G.length gc, .int .i64 (a : Nat)] w fun e w' => ∃ g, e = .returned (.slice (some ⟨g, 0, none⟩) G.length G.length) ∧ BoolsAt w' w.heap.size g G.length (ancB G a) ∧ Below w.heap.size w w' := by
  obtain ⟨w2, hmk, hbo, hb2⟩ := bools_made w G.length (by omega)
  have HG := Lib.hid hG; have HLW := Lib.hid hL; have HRL := Lib.hid hrl
  have hgl := hbo.lt.2
  have HP1 := Lib.hid (hbo.put ha true)
  obtain ⟨q0, q1⟩ := hbo.cell ha
  have HB1 := Lib.hid (show Below w.heap.size w (w2.setCell ⟨w.heap.size, a, none⟩ (.bool true)) from hb2.setCell (Nat.le_refl _) _)
  rw [up_start (t := a + 1) hL (Nat.lt_succ_self a)] at HP1
  obtain ⟨N, hNN⟩ : ∃ N, G.length = N := ⟨_, rfl⟩
  rw [hNN] at hmk HP1 ha hN ⊢
  have HNN := Lib.hid hNN
  have haN : (a : Int) < (N : Int) := by omega
  clear hG hL hrl hbo hb2 hNN hgl
  go_enter Tryz.func21, Tryz.ntmps21
  go_upto_region 3 with (fail)
  obtain ⟨X, hX⟩ : ∃ X, w2.setCell ⟨w.heap.size, a, none⟩ (.bool true) = X := ⟨_, rfl⟩
  rw [hX] at HP1 HB1 ⊢
  clear hX q0 q1 hmk
  obtain ⟨g, hg⟩ : ∃ g, w.heap.size = g := ⟨_, rfl⟩
  have HGG := Lib.hid hg
  rw [hg]
  have HP2 := Lib.hid (show BoolsAt X w.heap.size g N (ancAB G (a + 1) a) from by have := HP1.out; rw [hg] at this; rw [hg]; exact this)
  clear HP1 hg
  go_wp2_with fail
  go_loopw [6] (fun iv wr => ∃ t : Nat, t ≤ a + 1 ∧ iv = .int .i64 ((t : Int) - 1) ∧ BoolsAt wr w.heap.size g N (ancAB G t a) ∧ Below w.heap.size w wr) (fun iv _ => (intOf iv + 1).toNat)
  case atStart => exact ⟨a + 1, Nat.le_refl _, by congr 1; omega, HP2.out, HB1.out⟩
  case round =>
    obtain ⟨t, ht, rfl, hbo, hbel⟩ := hrel
    obtain ⟨wq, hwq⟩ : ∃ wq : World, wq = wr := ⟨_, rfl⟩
    subst hwq
    clear HP2 HB1
    by_cases ht0 : t = 0
    · subst ht0
      have HE := Lib.hid (show BoolsAt wq w.heap.size g N (ancB G a) from by rw [← up_end]; exact hbo)
      have HB := Lib.hid hbel
      clear hbo hbel
      rw [show (((0 : Nat) : Int) - 1) = -1 from rfl]
      go_wp2
      go_ret
      exact ⟨g, rfl, HE.out, HB.out⟩
    · obtain ⟨c, rfl⟩ : ∃ c, t = c + 1 := ⟨t - 1, by omega⟩
      have hcN : c < N := by omega
      rw [show ((c + 1 : Nat) : Int) - 1 = (c : Int) from by omega]
      obtain ⟨q0, q1⟩ := hbo.cell hcN
      have hc0 : decide ((c : Int) ≥ 0) = true := decide_eq_true (by omega)
      have hcN2 : (c : Int) < (N : Int) := by omega
      obtain ⟨u, hu⟩ : ∃ u, ancAB G (c + 1) a c = u := ⟨_, rfl⟩
      rw [hu] at q0
      have HBO := Lib.hid hbo; have HBE := Lib.hid hbel; have HU := Lib.hid hu
      clear hbo hbel hu
      cases u with
      | false =>
        have HE := Lib.hid (show BoolsAt wq w.heap.size g N (ancAB G c a) from by rw [← up_skip HLW.out HU.out]; exact HBO.out)
        go_wp2
        go_roundw
        case rel => exact ⟨c, by omega, rfl, HE.out, HBE.out⟩
        case measure => simp [intOf]
      | true =>
        obtain ⟨gb, go, ra, rc, rfl, cg, hra⟩ := HG.out.row (c := c) (by rw [HNN.out]; exact hcN)
        have hrl := HRL.out c
        have HLOW := Lib.hid (HLW.out c)
        have HNEXT := Lib.hid (fun i (hi : i < (par G c).length) => upF_next (a := a) hi)
        have HALL := Lib.hid (upF_all HLW.out HU.out)
        have HS0 := Lib.hid (show BoolsAt wq w.heap.size g N (upF G a c 0) from by rw [upF_none]; exact HBO.out)
        obtain ⟨ps, hps⟩ : ∃ ps, par G c = ps := ⟨_, rfl⟩
        rw [hps] at cg hra hrl HLOW HNEXT HALL
        have HCG := Lib.hid (fun W (hb : Below w.heap.size w W) => show W.cell? ⟨gb, go + c, none⟩ = some (.slice ra ps.length rc) ∧ CellsAt W ra (ps.flatMap natV) from ⟨bl_cell hb cg, hra.below hb⟩)
        clear cg hra hps HG
        go_wp2_with fail
        go_loopw [7] (fun iv wr => ∃ i : Nat, i ≤ ps.length ∧ iv = .int .i64 i ∧ BoolsAt wr w.heap.size g N (upF G a c i) ∧ Below w.heap.size w wr) (fun iv _ => ps.length - (intOf iv).toNat)
        case atStart => exact ⟨0, Nat.zero_le _, rfl, HS0.out, HBE.out⟩
        case round =>
          obtain ⟨i, hi, rfl, hbo, hbel⟩ := hrel
          obtain ⟨wy, hwy⟩ : ∃ wy : World, wy = wr := ⟨_, rfl⟩
          subst hwy
          obtain ⟨cg, hra⟩ := HCG.out wy hbel
          by_cases hil : i < ps.length
          · obtain ⟨rb, ro, rfl, c0⟩ := nat_at hra hil
            have hy := HLOW.out (ps.getD i 0) (by rw [List.getD_eq_getElem?_getD, List.getElem?_eq_getElem hil]; exact List.getElem_mem hil)
            have hnx := HNEXT.out i hil
            generalize ps.getD i 0 = y at *
            obtain ⟨p0, p1⟩ := hbo.cell (i := y) (by omega)
            have hput := hbo.put (i := y) (by omega) true
            rw [hnx] at hput
            have HPU := Lib.hid hput; have HBU := Lib.hid (hbel.setCell (p := ⟨g, y, none⟩) hbo.lt.1 (.bool true))
            have hyN : (y : Int) < (N : Int) := by omega
            clear hput hnx hbo hbel hra
            go_wp2
            go_roundw
            case rel => exact ⟨i + 1, by omega, by go_num, HPU.out, HBU.out⟩
            case measure => simp [intOf]; omega
          · obtain rfl : i = ps.length := by omega
            have HE := Lib.hid (show BoolsAt wy w.heap.size g N (ancAB G c a) from by rw [← HALL.out]; exact hbo)
            have HBY := Lib.hid hbel
            clear hbo hbel hra
            go_wp2
            go_roundw
            case rel => exact ⟨c, by omega, rfl, HE.out, HBY.out⟩
            case measure => simp [intOf]
end Go.Proofs.YtbhfbdcmamodcaaGreatDoor
namespace Go.Proofs.YtbhfbdcmamodcaaGreatDoor
open Go.RowKit LgMath
theorem listF_succ (f : Nat → Bool) (i : Nat) : listF f (i + 1) = if f i then listF f i ++ [i] else listF f i := by
  unfold listF
  rw [List.range_succ, List.filter_append, List.filter_cons]
  cases f i <;> simp
set_option maxHeartbeats 2000000 in
set_option maxRecDepth 100000 in
theorem rList {w : World} {B g N : Nat} {f : Nat → Bool} (h : BoolsAt w B g N f) (hN : N ≤ 2000) :
    Calls Tryz.prog 181 #[.slice (some ⟨g, 0, none⟩) N N] w fun e w' => ∃ val, e = .returned val ∧ OwnX 3 1 natV w' w.heap.size val (listF f N) ∧ Below w.heap.size w w' := by
  obtain ⟨i0, hi, hz0, hz1, hz2⟩ := info_parts infoIntL
  have H := Lib.hid h
  clear h
  go_enter Tryz.func181, Tryz.ntmps181
  go_wp2_with fail
  go_loopw [3, 4] (fun lv iv wr => ∃ (i : Nat) (v : Value), v = lv ∧ iv = .int .i64 i ∧ i ≤ N ∧ OwnX 3 1 natV wr w.heap.size v (listF f i) ∧ Below w.heap.size w wr) (fun _ iv _ => N - (intOf iv).toNat)
  case atStart => exact ⟨0, _, rfl, rfl, Nat.zero_le _, OwnX.nil _ _ _ _ _, Below.refl _ _⟩
  case round =>
    obtain ⟨i, v, hv, rfl, hin, hown, hbel⟩ := hrel
    subst hv
    obtain ⟨wq, hwq⟩ : ∃ wq : World, wq = wr := ⟨_, rfl⟩
    subst hwq
    have HO := Lib.hid hown; have HB := Lib.hid hbel
    by_cases hil : i < N
    · obtain ⟨c0, _⟩ := (H.out.below hbel).cell hil
      have hsu := listF_succ f i
      obtain ⟨t, ht⟩ : ∃ t, f i = t := ⟨_, rfl⟩
      rw [ht] at c0 hsu
      clear hown hbel ht
      cases t with
      | false =>
        have HT := Lib.hid (show listF f (i + 1) = listF f i from hsu)
        clear hsu
        go_wp2
        go_roundw
        case rel => exact ⟨i + 1, _, rfl, by go_num, by omega, by rw [HT.out]; exact HO.out, HB.out⟩
        case measure => simp [intOf]; omega
      | true =>
        have HT := Lib.hid (show listF f (i + 1) = listF f i ++ [i] from hsu)
        have hll := listF_len f i
        obtain ⟨va, vc, rfl, _, hvc, hvm, _, _⟩ := HO.out.sl
        obtain ⟨L, hL⟩ : ∃ L, listF f i = L := ⟨_, rfl⟩
        rw [hL] at HT HO hvc hll ⊢
        clear hL hsu
        go_wp2_with (at_builtin; refine wpList_append_lies _ rfl (.tmp 15) (.tmp 17) 42 rfl w.heap.size 3 i0 (.int .i64 0) 1 8 Tryz.underlying42 hi hz0 hz1 hz2 rfl (by decide) (.slice va L.length vc) L.length (L.flatMap natV) rfl (HO.out.below (bl_alloc (Below.refl _ _) _)) _ 1 1 [.int .i64 (i : Nat)] rfl rfl (cells_new _ [.int .i64 (i : Nat)] _ (by simp)) (by intro u hu; rw [List.mem_singleton.1 hu]; rfl) (by decide) (by unfold maxLen; omega) (by omega) (by have := HB.out.size; simp; omega) _ rfl ?_; intro gg cp w7 hown hg hat hlt7; have HU7 := Lib.hid (OwnX.push (enc := natV) (m := [i]) hown rfl rfl); have HB7 := Lib.hid (bel_grown HB.out HB.out.size (bl_alloc (Below.refl _ _) _) hg (fun j hj => by have := (HO.out.lt j hj).1; omega)); clear hown hg hat hlt7)
        go_roundw
        case rel => exact ⟨i + 1, _, rfl, by go_num, by omega, by rw [HT.out]; exact HU7.out, HB7.out⟩
        case measure => simp [intOf]; omega
    · obtain rfl : i = N := by omega
      clear hown hbel
      go_wp2
      go_ret
      exact ⟨_, rfl, HO.out, HB.out⟩
theorem bools_copied {w : World} {B C g h N : Nat} {f f0 : Nat → Bool} (hd : BoolsAt w B g N f0) (hs : BoolsAt w C h N f) (ty : TypeId) : ∃ w2, (Builtin.copy_ #[61, 61] ty #[.slice (some ⟨g, 0, none⟩) N N, .slice (some ⟨h, 0, none⟩) N N]).run Tryz.prog w = .ok (goInt N) w2 ∧ BoolsAt w2 B g N f ∧ Upd (· = g) w w2 := by
  obtain ⟨e1, e2⟩ := hd
  rcases e2 with ⟨e2, _⟩ | ⟨g', cap, cur, e2, e3, e4, e5, e6, e7, e8⟩
  · simp at e2
  · obtain ⟨r1, _, r3⟩ := Value.slice.inj e2
    cases r1
    subst r3
    obtain ⟨sa, sc, e9, hsc, _⟩ := OwnX.sl hs
    obtain ⟨rfl, _, _⟩ := Value.slice.inj e9
    have hl : ((boolL f N).flatMap boolV).length = N := by rw [flat_length boolW, boolL_len, Nat.mul_one]
    have hrun := run_copy_row (P := Tryz.prog) w 61 61 ty 4 g 0 N N ⟨h, 0, none⟩ N N cur 4 ((boolL f N).flatMap boolV) Tryz.underlying61 (by kernel_rfl) e4 (by rw [hl]; exact (Nat.min_self N).symm) hsc.src (by rw [hl, e7]; omega) (by
      intro u hu
      obtain ⟨b, _, hb⟩ := List.mem_flatMap.1 hu
      simp [boolV] at hb
      subst hb
      rfl)
    rw [hl] at hrun
    have hdr : (cur.toList.take 0 ++ (boolL f N).flatMap boolV ++ cur.toList.drop (0 + N)).toArray = ((boolL f N).flatMap boolV).toArray := by
      rw [List.take_zero, List.nil_append, List.drop_of_length_le (by simp; omega), List.append_nil]
    rw [hdr] at hrun
    refine ⟨_, hrun, ?_, ?_⟩
    · unfold BoolsAt OwnX
      rw [boolL_len]
      refine ⟨by rw [hl, Nat.mul_one], .inr ⟨g, N, ((boolL f N).flatMap boolV).toArray, rfl, e3, ?_, Nat.le_refl _, e6, by simp [hl], ?_⟩⟩
      · exact setRow_heap w g cur _ _ _ e4
      · rw [Nat.mul_one, List.take_of_length_le (by simp [hl])]
    · exact ⟨rfl, rfl, rfl, by simp [World.setRow], fun k hk hn => setRow_other w g k _ hn⟩
end Go.Proofs.YtbhfbdcmamodcaaGreatDoor
namespace Go.Proofs.YtbhfbdcmamodcaaGreatDoor
open Go.RowKit LgMath
set_option maxHeartbeats 2000000 in
set_option maxRecDepth 100000 in
theorem rUnknown {w : World} {ga : Option Addr} {gc N a : Nat} (ha : a < N) (hN : N ≤ 2000) (la : Option Addr) (lc : Nat) (hla : CellsAt w la ([a].flatMap natV)) :
    Calls Tryz.prog 117 #[.slice ga N gc, .slice la 1 lc] w fun e w' => e = .returned (.bool false) ∧ w' = w := by
  obtain ⟨lb, lo, rfl, c0⟩ := nat_at hla (j := 0) (by simp)
  rw [Nat.add_zero, show ([a] : List Nat).getD 0 0 = a from rfl] at c0
  have d1 : decide ((a : Int) < 0) = false := by simp
  have d2 : decide ((a : Int) ≥ (N : Int)) = false := by simp; omega
  have d3 : decide (N ≤ a) = false := by simp; omega
  clear hla
  go_enter Tryz.func117, Tryz.ntmps117
  go_wp2_with fail
  go_loopw [5] (fun iv wr => ∃ i : Nat, i ≤ 1 ∧ iv = .int .i64 i ∧ w = wr) (fun iv _ => 1 - (intOf iv).toNat)
  case atStart => exact ⟨0, by omega, rfl, rfl⟩
  case round =>
    obtain ⟨i, hi, rfl, rfl⟩ := hrel
    by_cases h : i = 0
    · subst h
      go_wp2
      go_roundw
      case rel => exact ⟨1, by omega, by go_num, by first | rfl | trivial⟩
      case measure => simp [intOf]
    · obtain rfl : i = 1 := by omega
      go_wp2
      go_ret
      exact ⟨rfl, rfl⟩
set_option maxHeartbeats 4000000 in
set_option maxRecDepth 100000 in
theorem rAny {w : World} {ga : Option Addr} {gc a : Nat} {G : Gr} (hG : GAt w ga G) (hL : LowG G) (ha : a < G.length) (hN : G.length ≤ 2000) (hrl : ∀ c, (par G c).length ≤ 1000) (la : Option Addr) (lc : Nat) (hla : CellsAt w la ([a].flatMap natV)) :
    Calls Tryz.prog 118 #[.slice ga G.length gc, .slice la 1 lc] w fun e w' => ∃ g, e = .returned (.slice (some ⟨g, 0, none⟩) G.length G.length) ∧ BoolsAt w' w.heap.size g G.length (ancB G a) ∧ Below w.heap.size w w' := by
  obtain ⟨w2, hmk, hbo, hb2⟩ := bools_made w G.length (by omega)
  have HG := Lib.hid hG; have HLW := Lib.hid hL; have HRL := Lib.hid hrl
  have HS := Lib.hid (show BoolsAt w2 w.heap.size w.heap.size G.length (fun _ => false) from hbo)
  have HB2 := Lib.hid hb2
  have HST := Lib.hid (up_start (t := G.length) hL ha)
  obtain ⟨lb, lo, rfl, c0⟩ := nat_at hla (j := 0) (by simp)
  rw [Nat.add_zero, show ([a] : List Nat).getD 0 0 = a from rfl] at c0
  have HC0 := Lib.hid c0
  obtain ⟨N, hNN⟩ : ∃ N, G.length = N := ⟨_, rfl⟩
  rw [hNN] at hmk HS HST ha hN ⊢
  have HNN := Lib.hid hNN
  have haN : (a : Int) < (N : Int) := by omega
  clear hG hL hrl hbo hb2 hNN hla c0
  go_enter Tryz.func118, Tryz.ntmps118
  go_upto_region 2 with (fail)
  clear hmk
  have HS2 := Lib.hid (show ∃ g, w.heap.size = g ∧ BoolsAt w2 w.heap.size g N (fun _ => false) from ⟨_, rfl, HS.out⟩)
  clear HS
  obtain ⟨g, hg, hbo⟩ := HS2.out
  rw [hg]
  have HS := Lib.hid hbo
  clear hg hbo HS2
  go_wp2_with fail
  go_loopw [6] (fun iv wr => ∃ i : Nat, i ≤ 1 ∧ iv = .int .i64 i ∧ BoolsAt wr w.heap.size g N (if i = 0 then fun _ => false else ancAB G N a) ∧ Below w.heap.size w wr) (fun iv _ => 1 - (intOf iv).toNat)
  case atStart => exact ⟨0, by omega, rfl, by rw [if_pos rfl]; exact HS.out, HB2.out⟩
  case round =>
    obtain ⟨i, hi, rfl, hbo, hbel⟩ := hrel
    obtain ⟨wq, hwq⟩ : ∃ wq : World, wq = wr := ⟨_, rfl⟩
    subst hwq
    clear HS HB2
    by_cases h : i = 0
    · subst h
      rw [if_pos rfl] at hbo
      have c0 := bl_cell hbel HC0.out
      obtain ⟨p0, p1⟩ := hbo.cell ha
      have hput := hbo.put ha true
      rw [HST.out] at hput
      have HPU := Lib.hid hput; have HBU := Lib.hid (hbel.setCell (p := ⟨g, a, none⟩) hbo.lt.1 (.bool true))
      clear hput hbo hbel
      go_wp2
      go_roundw
      case rel => exact ⟨1, by omega, by go_num, by rw [if_neg (by omega)]; exact HPU.out, HBU.out⟩
      case measure => simp [intOf]
    · obtain rfl : i = 1 := by omega
      rw [if_neg (by omega)] at hbo
      have HS0 := Lib.hid hbo; have HBE0 := Lib.hid hbel
      clear hbo hbel
      rw [show ((1 : Nat) : Int) = 1 from rfl]
      have hw1 : IntKind.i64.wrap ((N : Int) - 1) = (N : Int) - 1 := IntWalk.i64_in _ (by omega)
      go_wp2_with fail
      go_loopw [7] (fun iv wr => ∃ t : Nat, t ≤ N ∧ iv = .int .i64 ((t : Int) - 1) ∧ BoolsAt wr w.heap.size g N (ancAB G t a) ∧ Below w.heap.size w wr) (fun iv _ => (intOf iv + 1).toNat)
      case atStart => exact ⟨N, Nat.le_refl _, rfl, HS0.out, HBE0.out⟩
      case round =>
        obtain ⟨t, ht, rfl, hbo, hbel⟩ := hrel
        obtain ⟨wz, hwz⟩ : ∃ wz : World, wz = wr := ⟨_, rfl⟩
        subst hwz
        clear HS0 HBE0
        by_cases ht0 : t = 0
        · subst ht0
          have HE := Lib.hid (show BoolsAt wz w.heap.size g N (ancB G a) from by rw [← up_end]; exact hbo)
          have HB := Lib.hid hbel
          clear hbo hbel
          rw [show (((0 : Nat) : Int) - 1) = -1 from rfl]
          go_wp2
          go_ret
          exact ⟨g, rfl, HE.out, HB.out⟩
        · obtain ⟨c, rfl⟩ : ∃ c, t = c + 1 := ⟨t - 1, by omega⟩
          have hcN : c < N := by omega
          rw [show ((c + 1 : Nat) : Int) - 1 = (c : Int) from by omega]
          obtain ⟨q0, q1⟩ := hbo.cell hcN
          have hc0 : decide ((c : Int) ≥ 0) = true := decide_eq_true (by omega)
          have hcN2 : (c : Int) < (N : Int) := by omega
          obtain ⟨u, hu⟩ : ∃ u, ancAB G (c + 1) a c = u := ⟨_, rfl⟩
          rw [hu] at q0
          have HBO := Lib.hid hbo; have HBE := Lib.hid hbel; have HU := Lib.hid hu
          clear hbo hbel hu
          cases u with
          | false =>
            have HE := Lib.hid (show BoolsAt wz w.heap.size g N (ancAB G c a) from by rw [← up_skip HLW.out HU.out]; exact HBO.out)
            go_wp2
            go_roundw
            case rel => exact ⟨c, by omega, rfl, HE.out, HBE.out⟩
            case measure => simp [intOf]
          | true =>
            obtain ⟨gb, go, ra, rc, rfl, cg, hra⟩ := HG.out.row (c := c) (by rw [HNN.out]; exact hcN)
            have hrl := HRL.out c
            have HLOW := Lib.hid (HLW.out c)
            have HNEXT := Lib.hid (fun i (hi : i < (par G c).length) => upF_next (a := a) hi)
            have HALL := Lib.hid (upF_all HLW.out HU.out)
            have HS0 := Lib.hid (show BoolsAt wz w.heap.size g N (upF G a c 0) from by rw [upF_none]; exact HBO.out)
            obtain ⟨ps, hps⟩ : ∃ ps, par G c = ps := ⟨_, rfl⟩
            rw [hps] at cg hra hrl HLOW HNEXT HALL
            have HCG := Lib.hid (fun W (hb : Below w.heap.size w W) => show W.cell? ⟨gb, go + c, none⟩ = some (.slice ra ps.length rc) ∧ CellsAt W ra (ps.flatMap natV) from ⟨bl_cell hb cg, hra.below hb⟩)
            clear cg hra hps HG
            go_wp2_with fail
            go_loopw [8] (fun iv wr => ∃ i : Nat, i ≤ ps.length ∧ iv = .int .i64 i ∧ BoolsAt wr w.heap.size g N (upF G a c i) ∧ Below w.heap.size w wr) (fun iv _ => ps.length - (intOf iv).toNat)
            case atStart => exact ⟨0, Nat.zero_le _, rfl, HS0.out, HBE.out⟩
            case round =>
              obtain ⟨i, hi, rfl, hbo, hbel⟩ := hrel
              obtain ⟨wy, hwy⟩ : ∃ wy : World, wy = wr := ⟨_, rfl⟩
              subst hwy
              obtain ⟨cg, hra⟩ := HCG.out wy hbel
              by_cases hil : i < ps.length
              · obtain ⟨rb, ro, rfl, c0⟩ := nat_at hra hil
                have hy := HLOW.out (ps.getD i 0) (by rw [List.getD_eq_getElem?_getD, List.getElem?_eq_getElem hil]; exact List.getElem_mem hil)
                have hnx := HNEXT.out i hil
                generalize ps.getD i 0 = y at *
                obtain ⟨p0, p1⟩ := hbo.cell (i := y) (by omega)
                have hput := hbo.put (i := y) (by omega) true
                rw [hnx] at hput
                have HPU := Lib.hid hput; have HBU := Lib.hid (hbel.setCell (p := ⟨g, y, none⟩) hbo.lt.1 (.bool true))
                have hyN : (y : Int) < (N : Int) := by omega
                clear hput hnx hbo hbel hra
                go_wp2
                go_roundw
                case rel => exact ⟨i + 1, by omega, by go_num, HPU.out, HBU.out⟩
                case measure => simp [intOf]; omega
              · obtain rfl : i = ps.length := by omega
                have HE := Lib.hid (show BoolsAt wy w.heap.size g N (ancAB G c a) from by rw [← HALL.out]; exact hbo)
                have HBY := Lib.hid hbel
                clear hbo hbel hra
                go_wp2
                go_roundw
                case rel => exact ⟨c, by omega, rfl, HE.out, HBY.out⟩
                case measure => simp [intOf]
end Go.Proofs.YtbhfbdcmamodcaaGreatDoor
namespace Go.Proofs.YtbhfbdcmamodcaaGreatDoor
open Go.RowKit LgMath
open Classical in
noncomputable def outF (G : Gr) (f : Nat → Bool) (c i y : Nat) : Bool := decide (f y = true ∧ (∀ c', c' < c → f c' = true → y ∉ par G c') ∧ (f c = true → y ∉ (par G c).take i))
theorem outF_iff {G : Gr} {f : Nat → Bool} {c i y : Nat} : outF G f c i y = true ↔ f y = true ∧ (∀ c', c' < c → f c' = true → y ∉ par G c') ∧ (f c = true → y ∉ (par G c).take i) := by unfold outF; exact decide_eq_true_iff
theorem outF_start (G : Gr) (f : Nat → Bool) : outF G f 0 0 = f := by
  funext y
  rw [Bool.eq_iff_iff, outF_iff]
  simp
theorem outF_skip {G : Gr} {f : Nat → Bool} {c i : Nat} (h : f c = false) : outF G f c (i + 1) = outF G f c i := by
  funext y
  rw [Bool.eq_iff_iff, outF_iff, outF_iff, h]
  simp
theorem outF_next {G : Gr} {f : Nat → Bool} {c i : Nat} (h : f c = true) (hi : i < (par G c).length) : upd (outF G f c i) ((par G c).getD i 0) false = outF G f c (i + 1) := by
  have e0 : (par G c).getD i 0 = (par G c)[i] := by rw [List.getD_eq_getElem?_getD, List.getElem?_eq_getElem hi]; rfl
  have hm : ∀ y, y ∈ (par G c).take (i + 1) ↔ y ∈ (par G c).take i ∨ y = (par G c)[i] := fun y => by rw [List.take_succ_eq_append_getElem hi, List.mem_append, List.mem_singleton]
  funext y
  rw [e0]
  by_cases e : y = (par G c)[i]
  · subst e
    rw [upd_same, eq_comm, Bool.eq_false_iff]
    intro k
    exact (outF_iff.1 k).2.2 h ((hm _).2 (.inr rfl))
  · rw [upd_other _ _ e, Bool.eq_iff_iff, outF_iff, outF_iff]
    constructor
    · rintro ⟨a, b, d⟩
      exact ⟨a, b, fun k m => ((hm y).1 m).elim (d k) e⟩
    · rintro ⟨a, b, d⟩
      exact ⟨a, b, fun k m => d k ((hm y).2 (.inl m))⟩
theorem outF_all (G : Gr) (f : Nat → Bool) (c : Nat) : outF G f c (par G c).length = outF G f (c + 1) 0 := by
  funext y
  rw [Bool.eq_iff_iff, outF_iff, outF_iff, List.take_length]
  constructor
  · rintro ⟨a, b, d⟩
    refine ⟨a, fun c' hc hf => ?_, by simp⟩
    by_cases e : c' = c
    · subst e; exact d hf
    · exact b c' (by omega) hf
  · rintro ⟨a, b, d⟩
    exact ⟨a, fun c' hc hf => b c' (by omega) hf, fun hf => b c (by omega) hf⟩
theorem outF_end {G : Gr} {f : Nat → Bool} {a b N : Nat} (hN : G.length ≤ N) (hf : ∀ y, f y = (ancB G a y && ancB G b y)) : outF G f N 0 = bestB G a b := by
  funext y
  rw [Bool.eq_iff_iff, outF_iff, bestB_iff]
  have hfi : ∀ y, f y = true ↔ Anc G a y ∧ Anc G b y := fun y => by rw [hf, Bool.and_eq_true, ancB_iff, ancB_iff]
  unfold Best
  constructor
  · rintro ⟨h1, h2, _⟩
    refine ⟨((hfi y).1 h1).1, ((hfi y).1 h1).2, fun c k1 k2 hy => ?_⟩
    by_cases e : c < N
    · exact h2 c e ((hfi c).2 ⟨k1, k2⟩) hy
    · rw [par_none (by omega)] at hy; cases hy
  · rintro ⟨h1, h2, h3⟩
    exact ⟨(hfi y).2 ⟨h1, h2⟩, fun c _ hc => h3 c ((hfi c).1 hc).1 ((hfi c).1 hc).2, by simp⟩
set_option maxHeartbeats 4000000 in
set_option maxRecDepth 100000 in
theorem rBestG {w : World} {B h gc : Nat} {ga : Option Addr} {G : Gr} {f : Nat → Bool} (hG : GAt w ga G) (hL : LowG G) (hN : G.length ≤ 2000) (hrl : ∀ c, (par G c).length ≤ 1000) (hin : BoolsAt w B h G.length f) :
    Calls Tryz.prog 119 #[.slice ga G.length gc, .slice (some ⟨h, 0, none⟩) G.length G.length] w fun e w' => ∃ val, e = .returned val ∧ OwnX 3 1 natV w' w.heap.size val (listF (outF G f G.length 0) G.length) ∧ Below w.heap.size w w' := by
  obtain ⟨w2, hmk, hbo, hb2⟩ := bools_made w G.length (by omega)
  have HCP := Lib.hid (fun ty => bools_copied hbo (hin.below hb2) ty)
  obtain ⟨w3, hcp, hbo3, hu3⟩ := bools_copied hbo (hin.below hb2) 3
  have hcpy : ∀ ty, (Builtin.copy_ #[61, 61] ty #[.slice (some ⟨w.heap.size, 0, none⟩) G.length G.length, .slice (some ⟨h, 0, none⟩) G.length G.length]).run Tryz.prog w2 = .ok (goInt G.length) w3 := fun ty => by
    obtain ⟨w4, h1, h2, h3⟩ := HCP.out ty
    have : (Builtin.copy_ #[61, 61] ty #[.slice (some ⟨w.heap.size, 0, none⟩) G.length G.length, .slice (some ⟨h, 0, none⟩) G.length G.length]) = (Builtin.copy_ #[61, 61] 3 #[.slice (some ⟨w.heap.size, 0, none⟩) G.length G.length, .slice (some ⟨h, 0, none⟩) G.length G.length]) := rfl
    rw [this]
    exact hcp
  have hb3 : Below w.heap.size w w3 := hb2.trans (hu3.below (fun i e => by omega) hb2.size)
  have HG := Lib.hid hG; have HLW := Lib.hid hL; have HRL := Lib.hid hrl; have HIN := Lib.hid hin
  have HS := Lib.hid (show ∃ g, w.heap.size = g ∧ BoolsAt w3 w.heap.size g G.length (outF G f 0 0) from ⟨_, rfl, by rw [outF_start]; exact hbo3⟩)
  have HB3 := Lib.hid hb3
  obtain ⟨N, hNN⟩ : ∃ N, G.length = N := ⟨_, rfl⟩
  rw [hNN] at hmk hcpy HS HIN hN ⊢
  have HNN := Lib.hid hNN
  have HLst := Lib.hid (fun (W : World) (g : Nat) (hb : BoolsAt W w.heap.size g N (outF G f N 0)) => rList hb (by omega))
  clear hG hL hrl hbo hbo3 hb2 hb3 hu3 hin hcp HCP hNN
  go_enter Tryz.func119, Tryz.ntmps119
  go_upto_region 3 with (fail)
  clear hmk hcpy
  obtain ⟨g, hg, hbo⟩ := HS.out
  rw [hg]
  have HS2 := Lib.hid hbo
  clear hg hbo HS
  go_wp2_with fail
  go_loopw [6] (fun iv wr => ∃ c : Nat, c ≤ N ∧ iv = .int .i64 c ∧ BoolsAt wr w.heap.size g N (outF G f c 0) ∧ Below w.heap.size w wr) (fun iv _ => N - (intOf iv).toNat)
  case atStart => exact ⟨0, Nat.zero_le _, rfl, HS2.out, HB3.out⟩
  case round =>
    obtain ⟨c, hc, rfl, hbo, hbel⟩ := hrel
    obtain ⟨wq, hwq⟩ : ∃ wq : World, wq = wr := ⟨_, rfl⟩
    subst hwq
    clear HS2 HB3
    by_cases hcN : c < N
    · obtain ⟨gb, go, ra, rc, rfl, cg, hra⟩ := HG.out.row (c := c) (by rw [HNN.out]; exact hcN)
      have hrl := HRL.out c
      have HLOW := Lib.hid (HLW.out c)
      obtain ⟨q0, _⟩ := HIN.out.cell hcN
      obtain ⟨u, hu⟩ : ∃ u, f c = u := ⟨_, rfl⟩
      rw [hu] at q0
      have HNEXT := Lib.hid (fun i (hi : i < (par G c).length) (hf : u = true) => outF_next (hu.trans hf) hi)
      have HSKIP := Lib.hid (fun i (hf : u = false) => outF_skip (G := G) (i := i) (hu.trans hf))
      have HALL := Lib.hid (outF_all G f c)
      have HS0 := Lib.hid hbo; have HBE := Lib.hid hbel
      obtain ⟨ps, hps⟩ : ∃ ps, par G c = ps := ⟨_, rfl⟩
      rw [hps] at cg hra hrl HLOW HNEXT HALL
      have HCG := Lib.hid (fun W (hb : Below w.heap.size w W) => show W.cell? ⟨gb, go + c, none⟩ = some (.slice ra ps.length rc) ∧ CellsAt W ra (ps.flatMap natV) ∧ W.cell? ⟨h, c, none⟩ = some (.bool u) from ⟨bl_cell hb cg, hra.below hb, bl_cell hb q0⟩)
      have hcN2 : (c : Int) < (N : Int) := by omega
      clear cg hra hps q0 hbo hbel hu
      go_wp2_with fail
      go_loopw [7] (fun iv wr => ∃ i : Nat, i ≤ ps.length ∧ iv = .int .i64 i ∧ BoolsAt wr w.heap.size g N (outF G f c i) ∧ Below w.heap.size w wr) (fun iv _ => ps.length - (intOf iv).toNat)
      case atStart => exact ⟨0, Nat.zero_le _, rfl, HS0.out, HBE.out⟩
      case round =>
        obtain ⟨i, hi, rfl, hbo, hbel⟩ := hrel
        obtain ⟨wy, hwy⟩ : ∃ wy : World, wy = wr := ⟨_, rfl⟩
        subst hwy
        clear HS0 HBE
        obtain ⟨cg, hra, cu⟩ := HCG.out wy hbel
        by_cases hil : i < ps.length
        · obtain ⟨rb, ro, rfl, c0⟩ := nat_at hra hil
          have hy := HLOW.out (ps.getD i 0) (by rw [List.getD_eq_getElem?_getD, List.getElem?_eq_getElem hil]; exact List.getElem_mem hil)
          cases u with
          | true =>
            have hnx := HNEXT.out i hil rfl
            generalize ps.getD i 0 = y at *
            obtain ⟨p0, p1⟩ := hbo.cell (i := y) (by omega)
            have hput := hbo.put (i := y) (by omega) false
            rw [hnx] at hput
            have HPU := Lib.hid hput; have HBU := Lib.hid (hbel.setCell (p := ⟨g, y, none⟩) hbo.lt.1 (.bool false))
            have hyN : (y : Int) < (N : Int) := by omega
            clear hput hnx hbo hbel hra
            go_wp2
            go_roundw
            case rel => exact ⟨i + 1, by omega, by go_num, HPU.out, HBU.out⟩
            case measure => simp [intOf]; omega
          | false =>
            have HPU := Lib.hid (show BoolsAt wy w.heap.size g N (outF G f c (i + 1)) from by rw [HSKIP.out i rfl]; exact hbo)
            have HBU := Lib.hid hbel
            clear hbo hbel hra c0 hy
            go_wp2
            go_roundw
            case rel => exact ⟨i + 1, by omega, by go_num, HPU.out, HBU.out⟩
            case measure => simp [intOf]; omega
        · obtain rfl : i = ps.length := by omega
          have HE := Lib.hid (show BoolsAt wy w.heap.size g N (outF G f (c + 1) 0) from by rw [← HALL.out]; exact hbo)
          have HBY := Lib.hid hbel
          clear hbo hbel hra
          go_wp2
          go_roundw
          case rel => exact ⟨c + 1, by omega, by go_num, HE.out, HBY.out⟩
          case measure => simp [intOf]; omega
    · obtain rfl : c = N := by omega
      have HL := Lib.hid (HLst.out wq g hbo)
      have HB := Lib.hid hbel
      clear hbo hbel
      go_wp2_with fail
      (with_reducible refine HL.out.mono ?_)
      rintro e w9 ⟨val, rfl, ho, hb⟩
      have HE := Lib.hid (And.intro (ho.mono HB.out.size) (bl_trans HB.out hb))
      clear ho hb
      go_wp2
      go_ret
      exact ⟨val, rfl, HE.out.1, HE.out.2⟩
end Go.Proofs.YtbhfbdcmamodcaaGreatDoor
namespace Go.Proofs.YtbhfbdcmamodcaaGreatDoor
open Go.RowKit LgMath
def bothF (f1 f2 : Nat → Bool) (i y : Nat) : Bool := if y < i then f1 y && f2 y else f1 y
theorem both_next (f1 f2 : Nat → Bool) (i : Nat) : upd (bothF f1 f2 i) i (f1 i && f2 i) = bothF f1 f2 (i + 1) := by
  funext y
  unfold bothF
  by_cases e : y = i
  · subst e; rw [upd_same, if_pos (Nat.lt_succ_self y)]
  · rw [upd_other _ _ e]
    by_cases h : y < i
    · rw [if_pos h, if_pos (by omega)]
    · rw [if_neg h, if_neg (by omega)]
theorem both_at (f1 f2 : Nat → Bool) (i : Nat) : bothF f1 f2 i i = f1 i := by unfold bothF; rw [if_neg (Nat.lt_irrefl _)]
theorem both_start (f1 f2 : Nat → Bool) : bothF f1 f2 0 = f1 := by funext y; unfold bothF; rw [if_neg (by omega)]
theorem BoolsAt.congr {w : World} {B g N : Nat} {f f' : Nat → Bool} (h : BoolsAt w B g N f) (he : ∀ y, y < N → f y = f' y) : BoolsAt w B g N f' := by
  have e : boolL f N = boolL f' N := by
    unfold boolL
    exact List.map_congr_left fun y hy => he y (List.mem_range.1 hy)
  unfold BoolsAt at *
  rw [← e]
  exact h
theorem anc_small {G : Gr} (hL : LowG G) {a y : Nat} (ha : a < G.length) (h : G.length ≤ y) : ancB G a y = false := by
  cases e : ancB G a y with
  | false => rfl
  | true => have := (ancB_iff.1 e).le hL; omega
set_option maxHeartbeats 4000000 in
set_option maxRecDepth 100000 in
theorem rSides {w : World} {ga : Option Addr} {gc a x : Nat} {G : Gr} (hG : GAt w ga G) (hL : LowG G) (ha : a < G.length) (hx : x < G.length) (hN : G.length ≤ 2000) (hrl : ∀ c, (par G c).length ≤ 1000) (la ra : Option Addr) (lc rc : Nat) (hla : CellsAt w la ([a].flatMap natV)) (hra : CellsAt w ra ([x].flatMap natV)) :
    Calls Tryz.prog 53 #[.slice ga G.length gc, .slice la 1 lc, .slice ra 1 rc] w fun e w' => ∃ val, e = .returned (.tuple #[val, .int .i64 0]) ∧ OwnX 3 1 natV w' w.heap.size val (listF (bestB G a x) G.length) ∧ Below w.heap.size w w' := by
  have HU1 := Lib.hid (rUnknown (ga := ga) (gc := gc) ha hN la lc hla)
  have HU2 := Lib.hid (rUnknown (ga := ga) (gc := gc) hx hN ra rc hra)
  have HA1 := Lib.hid (rAny (gc := gc) hG hL ha hN hrl la lc hla)
  have HA2 := Lib.hid (fun W (hb : Below w.heap.size w W) => rAny (gc := gc) (hG.below hb) hL hx hN hrl ra rc (hra.below hb))
  have HB := Lib.hid (fun (W : World) (B h : Nat) (f : Nat → Bool) (hb : Below w.heap.size w W) (hi : BoolsAt W B h G.length f) => rBestG (gc := gc) (hG.below hb) hL hN hrl hi)
  have HE := Lib.hid (fun (f : Nat → Bool) (hf : ∀ y, f y = (ancB G a y && ancB G x y)) => outF_end (G := G) (Nat.le_refl _) hf)
  have HSM := Lib.hid (fun y (hy : G.length ≤ y) => And.intro (anc_small hL ha hy) (anc_small hL hx hy))
  obtain ⟨N, hNN⟩ : ∃ N, G.length = N := ⟨_, rfl⟩
  rw [hNN] at HU1 HU2 HA1 HA2 HB HE HSM hN ⊢
  clear hG hL ha hx hrl hla hra hNN
  go_enter Tryz.func53, Tryz.ntmps53
  go_wp2_with fail
  (with_reducible refine HU1.out.mono ?_)
  rintro e w1 ⟨rfl, hw1⟩
  rw [hw1]
  clear hw1
  go_wp2_with fail
  (with_reducible refine HU2.out.mono ?_)
  rintro e w2 ⟨rfl, hw2⟩
  rw [hw2]
  clear hw2
  go_wp2_with fail
  (with_reducible refine HA1.out.mono ?_)
  rintro e w3 ⟨g1, rfl, hb1, hbel3⟩
  have HA3 := Lib.hid (HA2.out w3 hbel3)
  have HB1 := Lib.hid hb1; have HBE3 := Lib.hid hbel3
  clear hb1 hbel3
  go_wp2_with fail
  (with_reducible refine HA3.out.mono ?_)
  rintro e w4 ⟨g2, rfl, hb2, hbel4⟩
  have hne : g1 ≠ g2 := by have := HB1.out.lt.2; have := hb2.lt.1; omega
  have HS := Lib.hid (show BoolsAt w4 w.heap.size g1 N (bothF (ancB G a) (ancB G x) 0) ∧ BoolsAt w4 w3.heap.size g2 N (ancB G x) ∧ Below w.heap.size w w4 from ⟨by rw [both_start]; exact HB1.out.below hbel4, hb2, bl_trans HBE3.out hbel4⟩)
  clear hb2 hbel4 HA3
  go_wp2_with fail
  go_loopw [10] (fun iv wr => ∃ i : Nat, i ≤ N ∧ iv = .int .i64 i ∧ BoolsAt wr w.heap.size g1 N (bothF (ancB G a) (ancB G x) i) ∧ BoolsAt wr w3.heap.size g2 N (ancB G x) ∧ Below w.heap.size w wr) (fun iv _ => N - (intOf iv).toNat)
  case atStart => exact ⟨0, Nat.zero_le _, rfl, HS.out⟩
  case round =>
    obtain ⟨i, hi, rfl, hb1, hb2, hbel⟩ := hrel
    obtain ⟨wq, hwq⟩ : ∃ wq : World, wq = wr := ⟨_, rfl⟩
    subst hwq
    clear HS HB1 HBE3
    by_cases hiN : i < N
    · obtain ⟨c0, c1⟩ := hb1.cell hiN
      obtain ⟨d0, _⟩ := hb2.cell hiN
      rw [both_at] at c0
      have hnx := both_next (ancB G a) (ancB G x) i
      obtain ⟨t, ht⟩ : ∃ t, ancB G a i = t := ⟨_, rfl⟩
      obtain ⟨u, hu⟩ : ∃ u, ancB G x i = u := ⟨_, rfl⟩
      rw [ht] at c0
      rw [hu] at d0
      rw [ht, hu] at hnx
      have hput := hb1.put hiN (t && u)
      rw [hnx] at hput
      have HPU := Lib.hid hput
      have HP2 := Lib.hid (show BoolsAt (wq.setCell ⟨g1, i, none⟩ (.bool (t && u))) w3.heap.size g2 N (ancB G x) from OwnX.stays hb2 fun j e => by
        simp [Value.ownBlock] at e
        subst e
        exact heap_setCell_other _ _ _ _ (fun e => hne e.symm))
      have HBU := Lib.hid (hbel.setCell (p := ⟨g1, i, none⟩) hb1.lt.1 (.bool (t && u)))
      have hi2 : (i : Int) < (N : Int) := by omega
      clear hput hnx hb1 hb2 hbel ht hu
      cases t <;> cases u
      all_goals
        simp only [Bool.and_true, Bool.and_false, Bool.true_and, Bool.false_and, Bool.and_self] at HPU HP2 HBU
        go_wp2
        go_roundw
        case rel => exact ⟨i + 1, by omega, by go_num, HPU.out, HP2.out, HBU.out⟩
        case measure => simp [intOf]; omega
    · obtain rfl : i = N := by omega
      have hcg : BoolsAt wq w.heap.size g1 i (fun y => ancB G a y && ancB G x y) := hb1.congr fun y hy => by unfold bothF; rw [if_pos hy]
      have hB := HB.out wq _ g1 _ hbel hcg
      rw [HE.out _ (fun _ => rfl)] at hB
      have HBB := Lib.hid hB; have HBE := Lib.hid hbel
      clear hb1 hb2 hbel hcg hB
      go_wp2_with fail
      (with_reducible refine HBB.out.mono ?_)
      rintro e w9 ⟨val, rfl, ho, hb⟩
      have HEE := Lib.hid (And.intro (ho.mono HBE.out.size) (bl_trans HBE.out hb))
      clear ho hb
      go_wp2
      exact bodyPost_ret (v := .tuple #[val, .int .i64 0]) (by simp [results, Tryz.results53, go_sem]) rfl ⟨_, rfl, HEE.out.1, HEE.out.2⟩
set_option maxHeartbeats 1000000 in
set_option maxRecDepth 100000 in
theorem rMerge {w : World} {ga : Option Addr} {gc a x : Nat} {G : Gr} (hG : GAt w ga G) (hL : LowG G) (ha : a < G.length) (hx : x < G.length) (hN : G.length ≤ 2000) (hrl : ∀ c, (par G c).length ≤ 1000) :
    Calls Tryz.prog 24 #[.slice ga G.length gc, .int .i64 (a : Nat), .int .i64 (x : Nat)] w fun e w' => ∃ val, e = .returned (.tuple #[val, .int .i64 0]) ∧ OwnX 3 1 natV w' w.heap.size val (listF (bestB G a x) G.length) ∧ Below w.heap.size w w' := by
  obtain ⟨W1, hW1⟩ : ∃ W1, w.alloc (.cells #[.int .i64 (a : Nat)] 3) = W1 := ⟨_, rfl⟩
  obtain ⟨W2, hW2⟩ : ∃ W2, W1.alloc (.cells #[.int .i64 (x : Nat)] 3) = W2 := ⟨_, rfl⟩
  have hb1 : Below w.heap.size w W1 := by rw [← hW1]; exact bl_alloc (Below.refl _ _) _
  have hb2 : Below W1.heap.size W1 W2 := by rw [← hW2]; exact bl_alloc (Below.refl _ _) _
  have hz1 : W1.heap.size = w.heap.size + 1 := by rw [← hW1]; simp
  have hb12 := bl_trans hb1 hb2
  have h1 := one_new w a
  have h2 := one_new W1 x
  rw [hW1] at h1
  rw [hW2, hz1] at h2
  have HS := Lib.hid (rSides (gc := gc) (hG.below hb12) hL ha hx hN hrl (some ⟨w.heap.size, 0, none⟩) (some ⟨w.heap.size + 1, 0, none⟩) 1 1 (h1.below hb2) h2)
  have HW1 := Lib.hid hW1; have HW2 := Lib.hid hW2; have HB := Lib.hid hb12
  obtain ⟨N, hNN⟩ : ∃ N, G.length = N := ⟨_, rfl⟩
  rw [hNN] at HS ⊢
  clear hG hL ha hx hrl hW1 hW2 hb1 hb2 hz1 hb12 h1 h2 hN hNN
  go_enter Tryz.func24, Tryz.ntmps24
  go_wp2_with fail
  rw [HW1.out, HW2.out]
  (with_reducible refine HS.out.mono ?_)
  rintro e w3 ⟨val, rfl, ho, hb3⟩
  have HE := Lib.hid (And.intro (ho.mono HB.out.size) (bl_trans HB.out hb3))
  clear ho hb3
  go_wp2
  exact bodyPost_ret (v := .tuple #[val, .int .i64 0]) (by simp [results, Tryz.results24, go_sem]) rfl ⟨_, rfl, HE.out.1, HE.out.2⟩
set_option maxHeartbeats 1000000 in
set_option maxRecDepth 100000 in
theorem rSameList {w : World} {a1 a2 : Option Addr} {c1 c2 : Nat} {l : List Nat} (h1 : CellsAt w a1 (l.flatMap natV)) (h2 : CellsAt w a2 (l.flatMap natV)) (hl : l.length ≤ 100000) :
    Calls Tryz.prog 25 #[.slice a1 l.length c1, .slice a2 l.length c2] w fun e w' => e = .returned (.bool true) ∧ Below w.heap.size w w' := by
  have H1 := Lib.hid h1; have H2 := Lib.hid h2
  clear h1 h2
  go_enter Tryz.func25, Tryz.ntmps25
  go_wp2_with fail
  go_loopw [5] (fun iv wr => ∃ i : Nat, i ≤ l.length ∧ iv = .int .i64 i ∧ Below w.heap.size w wr) (fun iv _ => l.length - (intOf iv).toNat)
  case atStart => exact ⟨0, Nat.zero_le _, rfl, Below.refl _ _⟩
  case round =>
    obtain ⟨i, hi, rfl, hbel⟩ := hrel
    obtain ⟨wq, hwq⟩ : ∃ wq : World, wq = wr := ⟨_, rfl⟩
    subst hwq
    by_cases hil : i < l.length
    · obtain ⟨b1, o1, rfl, k1⟩ := nat_at (H1.out.below hbel) hil
      obtain ⟨b2, o2, rfl, k2⟩ := nat_at (H2.out.below hbel) hil
      generalize l.getD i 0 = y at *
      have HB := Lib.hid hbel
      have d1 : ((y : Int) != (y : Int)) = false := by simp
      have hi2 : (i : Int) < (l.length : Int) := by omega
      clear hbel
      go_upto_region 6 with (fail)
      go_quiet (fail)
      go_wp2
      go_roundw
      case rel => exact ⟨i + 1, by omega, by go_num, ⟨HB.out.os, HB.out.tape, HB.out.output, HB.out.size, HB.out.block⟩⟩
      case measure => simp [intOf]; omega
    · obtain rfl : i = l.length := by omega
      have HB := Lib.hid hbel
      clear hbel
      go_wp2
      go_ret
      exact ⟨rfl, HB.out⟩
end Go.Proofs.YtbhfbdcmamodcaaGreatDoor
