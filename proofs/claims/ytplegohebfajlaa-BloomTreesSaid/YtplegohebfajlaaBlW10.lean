/- Walk of layer 13: the filter of paths, in the document's answer. -/
import Derived.Test.YtplegohebfajlaaBlW9
set_option linter.unusedVariables false
set_option linter.unusedSimpArgs false
namespace Go.Proofs.Ytplegohebfajlaa
open Go.RowKit BlMath Go.Maps

set_option maxHeartbeats 1000000 in
set_option maxRecDepth 100000 in
theorem xMake_bad (H P M : Int) (S : Nat) (hc : chkR H P M ≠ 0) (a : Option Addr) (cap : Nat) (ss : List ByteArray) (w : World) :
    Calls Try.prog 17 #[.agg #[.int .i64 H, .int .i64 P, .int .i64 M, .int .u32 S], .slice a ss.length cap] w (MkSaid (makeR H P M S ss) w) := by
  have HC := Lib.hid (fun W => xCheck H P M S W)
  rw [chk_one hc] at HC
  have HF := Lib.hid (mk_bad (S := S) (l := ss) hc)
  have HR0 := Lib.hid (FilAt.start w H P M S)
  clear hc
  go_enter Try.func17, Try.ntmps17
  go_wp2_with (go_at_call 12; (with_reducible refine (HC.out _).mono ?_); rintro r w1 ⟨rfl, hb⟩; have HR1 := Lib.hid (HR0.out.below hb); obtain ⟨c0, c1, c2, c3, r0, r1, q0, q1⟩ := (HR0.out.below hb).cells; clear hb)
  obtain ⟨z0, z1, hbz⟩ := FilAt.done (k := 0) (b := ⟨#[]⟩) HR1.out
  refine bodyPost_ret (v := .tuple #[.agg #[.int .i64 0, .string ⟨#[]⟩], .int .i64 1]) (by simp [results, Try.results17, go_sem, z0, z1]) rfl ?_
  exact mk_of HF.out hbz

theorem five_below {W W' : World} {a1 a2 b1 b2 c1 c2 d1 d2 e1 e2 : Nat} {u v x y z : Value} (h : W.cell? ⟨a1, a2, none⟩ = some u ∧ W.cell? ⟨b1, b2, none⟩ = some v ∧ W.cell? ⟨c1, c2, none⟩ = some x ∧ W.cell? ⟨d1, d2, none⟩ = some y ∧ W.cell? ⟨e1, e2, none⟩ = some z)
    (hb : Below W.heap.size W W') : W'.cell? ⟨a1, a2, none⟩ = some u ∧ W'.cell? ⟨b1, b2, none⟩ = some v ∧ W'.cell? ⟨c1, c2, none⟩ = some x ∧ W'.cell? ⟨d1, d2, none⟩ = some y ∧ W'.cell? ⟨e1, e2, none⟩ = some z :=
  ⟨bl_cell hb h.1, bl_cell hb h.2.1, bl_cell hb h.2.2.1, bl_cell hb h.2.2.2.1, bl_cell hb h.2.2.2.2⟩
theorem setF_take (H S n : Nat) (l : List ByteArray) (j : Nat) (h : j < l.length) (i : Nat) : setF H S n (l.take (j + 1)) i = (setF H S n (l.take j) i || (pl H S n l[j]).contains i) := by
  rw [List.take_succ_eq_append_getElem h, setF_snoc]

set_option maxHeartbeats 4000000 in
set_option maxRecDepth 100000 in
theorem xMake_good (H P M S : Nat) (hc : chkR H P M = 0) (hS : S < 4294967296) (a : Option Addr) (cap : Nat) (ss : List ByteArray) (hl : ss.length ≤ maxLen) (w : World) (hs : StrsAt w a ss) :
    Calls Try.prog 17 #[.agg #[.int .i64 H, .int .i64 P, .int .i64 M, .int .u32 S], .slice a ss.length cap] w (MkSaid (makeR H P M S ss) w) := by
  have HC := Lib.hid (fun W => xCheck H P M S W)
  rw [hc] at HC
  have HCC := Lib.hid hc
  obtain ⟨hH1, hH2, hP1, hP2, hM1, hM2⟩ := chk_zero hc
  have HR0 := Lib.hid (FilAt.start w H P M S)
  obtain ⟨i0, hi, hz0, hz1, hz2⟩ := info_parts infoU8
  have HUN := Lib.hid (fun W hW => unlike_any M (by omega) a cap ss hl W hW)
  have HS := Lib.hid hs
  have HSZ := Lib.hid (fun (p : ByteArray) (hp : p ∈ ss) => show p.size ≤ maxLen from by obtain ⟨i, hi, rfl⟩ := List.getElem_of_mem hp; exact (hs i hi).1)
  clear hc hs
  unfold maxLen at hl
  go_enter Try.func17, Try.ntmps17
  go_wp2_with (go_at_call 12; (with_reducible refine (HC.out _).mono ?_); rintro r w1 ⟨rfl, hb⟩; have HR1 := Lib.hid (HR0.out.below hb); obtain ⟨c0, c1, c2, c3, r0, r1, q0, q1⟩ := (HR0.out.below hb).cells; clear hb)
  with_reducible refine (HUN.out _ (HS.out.below HR1.out.bel (Nat.le_refl _))).mono ?_
  rintro r w2 ⟨kk, v, hkk, hlim, rfl, hown, hb⟩
  have HR2 := Lib.hid (HR1.out.below hb)
  obtain ⟨e0, e1, e2, e3, s0, s1, t0, t1⟩ := (HR1.out.below hb).cells
  have HMONO := Lib.hid (uniq_mono ss kk)
  have hlt2 : w1.heap.size ≤ w2.heap.size := hb.size
  obtain ⟨ga, gc, rfl, hga⟩ := own_slice hown
  have HOL := Lib.hid hown; have HGA := Lib.hid hga
  clear c0 c1 c2 c3 r0 r1 q0 q1 hown hga hb
  by_cases hbig : (M : Int) < (uniq (ss.take kk)).length
  · have HF := Lib.hid (mk_large (S := S) (l := ss) HCC.out (by have := HMONO.out; omega))
    have hd : decide ((M : Int) < ((uniq (ss.take kk)).length : Int)) = true := by simpa using hbig
    clear hlim
    go_wp2
    obtain ⟨z0, z1, hbz⟩ := FilAt.done (k := 2) (b := ⟨#[]⟩) HR2.out
    refine bodyPost_ret (v := .tuple #[.agg #[.int .i64 2, .string ⟨#[]⟩], .int .i64 0]) (by simp [results, Try.results17, go_sem, z0, z1]) rfl ?_
    exact mk_of HF.out hbz
  · obtain rfl : kk = ss.length := by rcases hlim with h | h <;> omega
    clear hlim
    rw [List.take_length] at *
    have HF := Lib.hid (mk_small (S := S) (l := ss) HCC.out hbig)
    have hd : decide ((M : Int) < ((uniq ss).length : Int)) = false := by simpa using hbig
    have HMEM := Lib.hid (fun p => mem_uniq ss p)
    have HFB0 := Lib.hid (show fbits H P S ss = ⟨(bytesB (setF H S (8 * roomB (uniq ss).length P) ss) (roomB (uniq ss).length P)).toArray⟩ from rfl)
    generalize uniq ss = L at *
    have hu : L.length ≤ 512 := by omega
    have hUP : L.length * P ≤ 512 * 64 := Nat.mul_le_mul hu (by omega)
    have hm1 : IntKind.i64.wrap ((L.length : Int) * (P : Int)) = ((L.length * P : Nat) : Int) := by rw [← Int.natCast_mul]; exact IntWalk.i64_in _ (by omega)
    have HRM := Lib.hid (show roomB L.length P = max 1 ((L.length * P + 7) / 8) from rfl)
    generalize L.length * P = UP at *
    obtain ⟨nb, hnb⟩ : ∃ nb, nb = max 1 ((UP + 7) / 8) := ⟨_, rfl⟩
    rw [← hnb] at HRM
    have HNB := Lib.hid hnb
    have hnb1 : 1 ≤ nb := by omega
    have hnb2 : nb ≤ 4100 := by omega
    clear hnb
    have HPC := Lib.hid (fun (x : ByteArray) (hx : x.size ≤ maxLen) W => xPlaces_at H (8 * nb) S P M (8 * (nb : Int)) (by omega) HCC.out (by omega) (by omega) hS x hx W)
    have hzc : (madeCells (Value.int .u8 0).cells (nb * 1)).toList = bytesOf (bytesB (setF H S (8 * nb) (L.take 0)) nb) := by
      rw [Nat.mul_one, bytesB_congr (g := fun _ => false) nb (fun i => by simp [setF])]; exact (toList_madeCells_one _ nb).trans (zero_bytes nb)
    have HZC := Lib.hid hzc
    clear hzc
    go_wp2_with (refine wpList_make_full _ rfl (.tmp 32) (.tmp 32) 51 rfl w2.heap.size 5 i0 (.int .u8 0) 1 Try.underlying51 hi hz0 hz1 .i64 .i64 _ _ nb rfl rfl (by have := HNB.out; omega) (by have := HNB.out; omega) (by rw [hz2]; omega) (by unfold maxLen; omega) (Nat.le_refl _) ?_; intro w3 hown hg; rw [HZC.out] at hown; have HO3 := Lib.hid hown; have HB3 := Lib.hid (below_of_grown hg (fun g h => by cases h)); clear hown hg)
    all_goals
      go_loopw [8] (fun i wv => ∃ j : Nat, j ≤ L.length ∧ i = .int .i64 j ∧ wv.ownsRow w2.heap.size 5 1 (.slice (some ⟨w2.heap.size, 0, none⟩) nb nb) nb (bytesOf (bytesB (setF H S (8 * nb) (L.take j)) nb)) ∧ Below w2.heap.size w2 wv) (fun i _ => L.length - (intOf i).toNat)
      case atStart => exact ⟨0, Nat.zero_le _, rfl, HO3.out, HB3.out⟩
      case round =>
        obtain ⟨j, hj, rfl, hob, hbv⟩ := hrel
        obtain ⟨wv, rfl⟩ : ∃ wv : World, wv = wr := ⟨_, rfl⟩
        have HOB := Lib.hid hob; have HBV := Lib.hid hbv
        have hszv := hbv.size
        clear hob hbv
        by_cases hltj : j < L.length
        · have hdj : decide ((j : Int) < (L.length : Int)) = true := by simp; omega
          obtain ⟨g, rfl⟩ := HGA.out (by omega)
          have hcx := (own_bel HOL.out HBV.out).cellAt j (by omega)
          rw [show (strsV L)[j]? = some (.string L[j]) from by simp [strsV, hltj]] at hcx
          have hxz := HSZ.out L[j] ((HMEM.out _).1 (List.getElem_mem hltj))
          have HTK := Lib.hid (fun i => setF_take H S (8 * nb) L j hltj i)
          generalize L[j] = x at *
          have HPX := Lib.hid (fun W => HPC.out x hxz W)
          have HCX := Lib.hid (show wv.cell? ⟨w.heap.size, 0, none⟩ = some (.int .i64 H) ∧ wv.cell? ⟨w.heap.size, 1, none⟩ = some (.int .i64 P) ∧ wv.cell? ⟨w.heap.size, 2, none⟩ = some (.int .i64 M) ∧ wv.cell? ⟨w.heap.size, 3, none⟩ = some (.int .u32 S) ∧ wv.cell? ⟨g, j, none⟩ = some (.string x) from by
            obtain ⟨d0, d1, d2, d3, _⟩ := (HR2.out.below HBV.out).cells
            exact ⟨d0, d1, d2, d3, hcx⟩)
          clear hcx
          have hj0 : (0 : Int) ≤ (j : Int) := by omega
          have hn8 : IntKind.i64.wrap (8 * (nb : Int)) = 8 * (nb : Int) := IntWalk.i64_in _ (by omega)
          have hjL : (j : Int) < (L.length : Int) := by omega
          go_wp2
          go_region_held3 (fun w' => w'.cell? ⟨w.heap.size, 0, none⟩ = some (.int .i64 H) ∧ w'.cell? ⟨w.heap.size, 1, none⟩ = some (.int .i64 P) ∧ w'.cell? ⟨w.heap.size, 2, none⟩ = some (.int .i64 M) ∧ w'.cell? ⟨w.heap.size, 3, none⟩ = some (.int .u32 S) ∧ w'.cell? ⟨g, j, none⟩ = some (.string x))
            (first | exact HCY.out | exact HCX.out)
            (first | (go_at_call 14; (with_reducible refine (HPX.out _).mono ?_); rintro r w5 ⟨v5, rfl, hown5, hb5⟩; rw [pl_length] at hown5; obtain ⟨g5, pc, rfl⟩ := own_some hown5 (by omega); have hb6 := (Below.drew (Below.refl _ wv)).trans hb5; have HV5 := Lib.hid (own_base hown5 (show wv.heap.size ≤ wv.drew.heap.size from Nat.le_refl _)); have HBL := Lib.hid hb6; have HCY := Lib.hid (five_below HCX.out hb6); clear hown5 hb5 hb6))
          clear hn8
          have HO5 := Lib.hid (own_bel HOB.out HBL.out)
          have HB5 := Lib.hid (HBV.out.trans (HBL.out.mono hszv))
          have hgb := (HV5.out.lt g5 rfl).1
          have hlo := (HOB.out.lt w2.heap.size rfl).2
          have hPL := pl_lt (show 0 < 8 * nb by omega) (H := H) (seed := S) x
          have HPL := Lib.hid hPL
          have HTK2 := Lib.hid (fun j (h : j < (pl H S (8 * nb) x).length) => List.take_succ_eq_append_getElem h)
          have hpll := pl_length H S (8 * nb) x
          generalize hPX : pl H S (8 * nb) x = px at *
          have HPLL := Lib.hid hpll
          clear hPX hPL hpll
          generalize hFJ : setF H S (8 * nb) (L.take j) = f at *
          clear hFJ
          go_wp2
          go_loopw [10] (fun i wq => ∃ m : Nat, m ≤ H ∧ i = .int .i64 m ∧
            wq.ownsRow w2.heap.size 5 1 (.slice (some ⟨w2.heap.size, 0, none⟩) nb nb) nb (bytesOf (bytesB (fun i => f i || (px.take m).contains i) nb)) ∧ wq.ownsRow wv.heap.size 3 1 (.slice (some ⟨g5, 0, none⟩) H pc) H (natsV px) ∧ Below w2.heap.size w2 wq) (fun i _ => H - (intOf i).toNat)
          case atStart => exact ⟨0, Nat.zero_le _, rfl, by rw [bytesB_congr (g := f) nb (fun i => by simp)]; exact HO5.out, HV5.out, HB5.out⟩
          case round =>
            obtain ⟨m, hm, rfl, hoq, hvq, hbq⟩ := hrel
            have HOQ := Lib.hid hoq; have HVQ := Lib.hid hvq; have HBQ := Lib.hid hbq
            clear hoq hvq hbq
            by_cases hltm : m < H
            · have hdm : decide ((m : Int) < (H : Int)) = true := by simp; omega
              have hjl : m < px.length := by have := HPLL.out; omega
              have HT2 := Lib.hid (HTK2.out m hjl)
              have hy := HPL.out _ (List.getElem_mem hjl)
              have hcy := HVQ.out.cellAt m (by omega)
              rw [show (natsV px)[m]? = some (.int .i64 (px[m] : Nat)) from by simp [natsV, hjl]] at hcy
              generalize px[m] = y at *
              have HQ := Lib.hid (byteQ (fun i => f i || (px.take m).contains i) (fun i => f i || (px.take (m + 1)).contains i) nb y (fun i => by rw [HT2.out]; simp [Bool.or_assoc]))
              have hq8 : y / 8 < nb := by omega
              have hr8 : y % 8 < 8 := by omega
              have hdv : (y : Int) / 8 = ((y / 8 : Nat) : Int) := by omega
              have hmd : (y : Int) % 8 = ((y % 8 : Nat) : Int) := by omega
              have hsh : IntKind.u8.wrap ((2 : Int) ^ (y % 8)) = ((2 ^ (y % 8) : Nat) : Int) := pow_u8 _ hr8
              have hm8 : 2 ^ (y % 8) < 256 := Nat.pow_lt_pow_right (n := 8) (by decide) hr8
              have hcq := HOQ.out.cellAt (y / 8) (by omega)
              rw [byteC _ nb _ hq8] at hcq
              have hbl := byteB_lt (fun i => f i || (px.take m).contains i) (y / 8)
              generalize byteB (fun i => f i || (px.take m).contains i) (y / 8) = bq at *
              generalize y / 8 = q at *
              generalize y % 8 = r at *
              generalize 2 ^ r = mm at hsh hm8 HQ
              have hor : bits .or .u8 (bq : Int) (mm : Int) = ((bq ||| mm : Nat) : Int) := u8_or_nat bq mm hbl hm8
              have hfq := HOQ.out.frozenAt q
              have HST := Lib.hid (HOQ.out.stored q (.int .u8 ((bq ||| mm : Nat) : Int)))
              rw [HQ.out] at HST
              have HVQ6 := Lib.hid (HVQ.out.kept HST.out.2 (.inr (fun e => by simp [Value.ownBlock] at e; omega)))
              have HB6 := Lib.hid (HBQ.out.setCell (p := ⟨w2.heap.size, q, none⟩) (Nat.le_refl _) (.int .u8 ((bq ||| mm : Nat) : Int)))
              have hq0 : (q : Int) < nb := by omega
              have hm0 : (0 : Int) ≤ (m : Int) := by omega
              have hmH : (m : Int) < (H : Int) := by omega
              go_wp2
              go_region
              go_wp2
              go_roundw
              case rel => exact ⟨m + 1, by omega, by go_num, HST.out.1, HVQ6.out, HB6.out.drew⟩
              case measure => simp [intOf]; omega
            · have hdm : decide ((m : Int) < (H : Int)) = false := by simp; omega
              obtain rfl : m = H := by omega
              have HEND := Lib.hid (show bytesB (fun i => f i || (px.take m).contains i) nb = bytesB (setF m S (8 * nb) (L.take (j + 1))) nb from bytesB_congr nb (fun i => by rw [HTK.out i, List.take_of_length_le (by have := HPLL.out; omega)]))
              rw [HEND.out] at HOQ
              go_wp2
              go_roundw
              case rel => exact ⟨j + 1, by omega, by go_num, HOQ.out, HBQ.out⟩
              case measure => simp [intOf]; omega
        · have hdj : decide ((j : Int) < (L.length : Int)) = false := by simp; omega
          obtain rfl : j = L.length := by omega
          rw [List.take_length] at HOB
          have HEQ := Lib.hid (show bytesB (setF H S (8 * nb) L) nb = bytesB (setF H S (8 * nb) ss) nb from bytesB_congr nb (fun i => setF_congr HMEM.out i))
          have hrun := run_own_string w2.heap.size wv (.slice (some ⟨w2.heap.size, 0, none⟩) nb nb) (bytesB (setF H S (8 * nb) L) nb) (by rw [bytesB_length]; exact HOB.out)
          have HFB := Lib.hid (show (ByteArray.mk (bytesB (setF H S (8 * nb) L) nb).toArray) = fbits H P S ss from by rw [HFB0.out, HEQ.out, HRM.out])
          have HR5 := Lib.hid (HR2.out.below HBV.out)
          obtain ⟨e0, e1, e2, e3, s0, s1, t0, t1⟩ := (HR2.out.below HBV.out).cells
          generalize bytesB (setF H S (8 * nb) L) nb = bb at *
          go_wp2
          obtain ⟨z0, z1, hbz⟩ := FilAt.done (k := 1) (b := ⟨bb.toArray⟩) HR5.out
          refine bodyPost_ret (v := .tuple #[.agg #[.int .i64 1, .string ⟨bb.toArray⟩], .int .i64 0]) (by simp [results, Try.results17, go_sem, z0, z1]) rfl ?_
          rw [HFB.out]
          exact mk_of HF.out (by rw [← HFB.out]; exact hbz)
theorem xMake (H P M : Int) (S : Nat) (hS : S < 4294967296) (a : Option Addr) (cap : Nat) (ss : List ByteArray) (hl : ss.length ≤ maxLen) (w : World) (hs : StrsAt w a ss) :
    Calls Try.prog 17 #[.agg #[.int .i64 H, .int .i64 P, .int .i64 M, .int .u32 S], .slice a ss.length cap] w (MkSaid (makeR H P M S ss) w) := by
  by_cases hc : chkR H P M = 0
  · have hz := chk_zero hc
    obtain ⟨h0, rfl⟩ := Int.eq_ofNat_of_zero_le (show 0 ≤ H by omega)
    obtain ⟨p0, rfl⟩ := Int.eq_ofNat_of_zero_le (show 0 ≤ P by omega)
    obtain ⟨m0, rfl⟩ := Int.eq_ofNat_of_zero_le (show 0 ≤ M by omega)
    exact xMake_good h0 p0 m0 S hc hS a cap ss hl w hs
  · exact xMake_bad H P M S hc a cap ss w
end Go.Proofs.Ytplegohebfajlaa
