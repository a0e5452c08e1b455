/- The law TreeDiffs, walked. -/
import Derived.Test.YtdjpmgkcgpkkmaaTrDr
import Derived.Test.YtdjpmgkcgpkkmaaTrSc
import Derived.Test.YtdjpmgkcgpkkmaaTrPr
import Derived.Test.YtdjpmgkcgpkkmaaTrQb
import Derived.Test.YtdjpmgkcgpkkmaaTrLk
import Derived.Test.YtdjpmgkcgpkkmaaTrSt
import Derived.Test.YtdjpmgkcgpkkmaaTrW7
import Derived.BigQuiet
set_option linter.unusedVariables false
set_option linter.unusedSimpArgs false
namespace Go.Proofs.Ytdjpmgkcgpkkmaa
open Go.RowKit TrMath

theorem ownB_first' {w : World} {B g n c : Nat} {l : Ents} (h : OwnB w B g c (l ++ sp)) (hn : l.length = n) : EnAt w (some ⟨g, 0, none⟩) l := by
  subst hn
  have := (h.take l.length).at
  rwa [List.take_left] at this
theorem ch_at' {w : World} {B c : Nat} {a : Option Addr} {l : Chs} (h : OwnC w B (.slice a l.length c) l) : ChAt w a l := by
  obtain ⟨a', c', hv, he, _⟩ := OwnC.at h
  cases hv
  exact he
theorem look_word (p : ByteArray) : ∀ (l : Ents), Words l → 0 ≤ lookL l p ∧ lookL l p < 4294967296
  | [], _ => by simp [lookL]
  | e :: l, h => by
    have ih := look_word p l fun x hx => h x (by simp [hx])
    have h0 := h e (by simp)
    simp only [lookL]
    split
    · exact h0
    · exact ih
theorem diff_words {T U : Ents} (hT : Words T) (hU : Words U) (a1 : Asc T) (a2 : Asc U) : WordsC (diffL T U) := fun c hc => by
  obtain ⟨h1, h2⟩ := diff_val T U a1 a2 c hc
  rw [h1, h2]
  exact ⟨look_word _ _ hT, look_word _ _ hU⟩
theorem diff_same {T U : Ents} (hT : TrMath.Good T) (hU : TrMath.Good U) {K : Nat} (h : (diffL T U).length = K) : ((K : Int) == 0) = sameB T U := by
  subst h
  unfold sameB
  by_cases e : T = U
  · rw [(diff_nil hT hU).2 e]; simp [e]
  · have : diffL T U ≠ [] := fun k => e ((diff_nil hT hU).1 k)
    have : (diffL T U).length ≠ 0 := fun k => this (List.eq_nil_of_length_eq_zero k)
    simp only [e, decide_false, beq_eq_false_iff_ne]
    omega
theorem diff_at {T U : Ents} (hT : TrMath.Good T) (hU : TrMath.Good U) {L : Chs} (hL : diffL T U = L) {k : Nat} (hk : k < L.length) {p : ByteArray} {x y : Int} (e : L[k] = (p, x, y)) : x ≠ y ∧ lookL T p = x ∧ lookL U p = y := by
  subst hL
  have hm := List.getElem_mem hk
  obtain ⟨h1, h2⟩ := diff_val T U hT.asc hU.asc _ hm
  have h3 := diff_ne T U hT.nz hU.nz _ hm
  rw [e] at h1 h2 h3
  exact ⟨h3, h1.symm, h2.symm⟩
theorem diff_up {T U : Ents} (hT : TrMath.Good T) (hU : TrMath.Good U) {L : Chs} (hL : diffL T U = L) {k : Nat} (hk : k + 1 < L.length) : ltB (L[k]'(by omega)).1 L[k + 1].1 = true := by
  subst hL
  exact List.pairwise_iff_getElem.1 (diff_asc T U hT.asc hU.asc) k (k + 1) (by omega) hk (by omega)

set_option maxHeartbeats 20000000 in
set_option maxRecDepth 100000 in
theorem treeDiffs (x : Ents) (hWx : Words x) (a : Option Addr) (c : Nat) (hcl : x.length ≤ c) (hcm : c ≤ maxLen) (y : Ents) (hWy : Words y) (b : Option Addr) (d : Nat) (hdl : y.length ≤ d) (hdm : d ≤ maxLen) (w : World) (h : EnAt w a x) (k : EnAt w b y) :
    Calls Try.prog 9 #[.slice a x.length c, .slice b y.length d] w fun e w' => e = .returned (.bool true) ∧ Below w.heap.size w w' := by
  have hlx : x.length ≤ maxLen := Nat.le_trans hcl hcm
  have hly : y.length ≤ maxLen := Nat.le_trans hdl hdm
  have HX := Lib.hid h; have HY := Lib.hid k
  have HSt := Lib.hid (fun W => lStands W)
  have HGx := Lib.hid (fun W hw => lGood x hWx a c hcl hcm hlx W hw)
  have HGy := Lib.hid (fun W hw => lGood y hWy b d hdl hdm hly W hw)
  have HSxy := Lib.hid (fun W ha hb => tSame x y a b c d hlx W ha hb)
  have HRxy := Lib.hid (fun W ha hb => rSame x y a b c d hlx W ha hb)
  obtain ⟨rxy, hrxy⟩ : ∃ r, sameB x y = r := ⟨_, rfl⟩
  rw [hrxy] at HSxy HRxy
  have hT2 := good_len x; have hU2 := good_len y
  have hTg := good_good x; have hUg := good_good y
  have hTw := good_words hWx; have hUw := good_words hWy
  obtain ⟨T, hT⟩ : ∃ T, goodL x = T := ⟨_, rfl⟩
  obtain ⟨U, hU⟩ : ∃ U, goodL y = U := ⟨_, rfl⟩
  rw [hT] at HGx hT2 hTg hTw
  rw [hU] at HGy hU2 hUg hUw
  obtain ⟨n, hn⟩ : ∃ n, T.length = n := ⟨_, rfl⟩
  obtain ⟨m, hm⟩ : ∃ m, U.length = m := ⟨_, rfl⟩
  have HN := Lib.hid hn; have HM := Lib.hid hm
  have hLl := diff_len T U
  have hL2l := diff_len U T
  have hLw := diff_words hTw hUw hTg.asc hUg.asc
  have hL2w := diff_words hUw hTw hUg.asc hTg.asc
  obtain ⟨L, hL⟩ : ∃ L, diffL T U = L := ⟨_, rfl⟩
  obtain ⟨L2, hL2⟩ : ∃ L, diffL U T = L := ⟨_, rfl⟩
  obtain ⟨K, hK⟩ : ∃ K, L.length = K := ⟨_, rfl⟩
  obtain ⟨K2, hK2⟩ : ∃ K, L2.length = K := ⟨_, rfl⟩
  have hsm := diff_same hTg hUg (show (diffL T U).length = K by rw [hL, hK])
  obtain ⟨s, hs⟩ : ∃ s, sameB T U = s := ⟨_, rfl⟩
  rw [hs] at hsm
  have hp1 : patchL T L = U := by rw [← hL]; exact patch_diff hTg hUg
  have hp2 : patchL U L2 = T := by rw [← hL2]; exact patch_diff hUg hTg
  rw [hL] at hLl hLw; rw [hL2] at hL2l hL2w
  have HLA := Lib.hid (fun k hk p x y e => diff_at hTg hUg hL (k := k) hk (p := p) (x := x) (y := y) e)
  have HLU := Lib.hid (fun k hk => diff_up hTg hUg hL (k := k) hk)
  have HCT := Lib.hid (fun W a c hw => (show Calls Try.prog 11 #[.slice a n c] W fun e w' => ∃ g, e = .returned (.slice (some ⟨g, 0, none⟩) n (n + 3)) ∧ OwnB w' W.heap.size g (n + 3) (T ++ sp) ∧ Below W.heap.size W w' by have := lCopied T a c (by omega) W hw; rw [hn] at this; exact this))
  have HCU := Lib.hid (fun W a c hw => (show Calls Try.prog 11 #[.slice a m c] W fun e w' => ∃ g, e = .returned (.slice (some ⟨g, 0, none⟩) m (m + 3)) ∧ OwnB w' W.heap.size g (m + 3) (U ++ sp) ∧ Below W.heap.size W w' by have := lCopied U a c (by omega) W hw; rw [hm] at this; exact this))
  have HD1 := Lib.hid (fun W g h hw hk => (show Calls Try.prog 30 #[.slice g n (n + 3), .slice h m (m + 3)] W fun e w' => ∃ v, e = .returned v ∧ OwnC w' W.heap.size v L ∧ Below W.heap.size W w' by have := tDiff T U hTg.nz hUg.nz g h (n + 3) (m + 3) (by omega) (by omega) (by unfold maxLen; omega) (by unfold maxLen; omega) (by omega) W hw hk; unfold DiffSaid at this; rw [hn, hm, hL] at this; exact this))
  have HD2 := Lib.hid (fun W g h hw hk => (show Calls Try.prog 30 #[.slice h m (m + 3), .slice g n (n + 3)] W fun e w' => ∃ v, e = .returned v ∧ OwnC w' W.heap.size v L2 ∧ Below W.heap.size W w' by have := tDiff U T hUg.nz hTg.nz h g (m + 3) (n + 3) (by omega) (by omega) (by unfold maxLen; omega) (by unfold maxLen; omega) (by omega) W hk hw; unfold DiffSaid at this; rw [hn, hm, hL2] at this; exact this))
  have HD3 := Lib.hid (fun W g a c (hc1 : n ≤ c) (hc2 : c ≤ maxLen) hw hk => (show Calls Try.prog 30 #[.slice g n (n + 3), .slice a n c] W fun e w' => ∃ v, e = .returned v ∧ OwnC w' W.heap.size v [] ∧ Below W.heap.size W w' by have := tDiff T T hTg.nz hTg.nz g a (n + 3) c (by omega) (by omega) (by unfold maxLen; omega) hc2 (by omega) W hw hk; unfold DiffSaid at this; rw [hn, diff_self] at this; exact this))
  have HRD := Lib.hid (fun W a b c d hw hk => (show Calls Try.prog 32 #[.slice a n c, .slice b m d] W fun e w' => ∃ v, e = .returned v ∧ OwnC w' W.heap.size v L ∧ Below W.heap.size W w' by have := rDiff T U a b c d (by omega) W hw hk; unfold DiffSaid at this; rw [hn, hm, hL] at this; exact this))
  have HSC := Lib.hid (fun W a b c d hw hk => (show Calls Try.prog 31 #[.slice a K c, .slice b K d] W fun e w' => e = .returned (.bool true) ∧ ∃ n, w' = W.drewN n by have := rSameCh L a b c d (by unfold maxLen; omega) W hw hk; rw [hK] at this; exact this))
  have HP1 := Lib.hid (fun W g b d hw hk => (show Calls Try.prog 27 #[.slice g n (n + 3), .slice b K d] W fun e w' => ∃ v', e = .returned v' ∧ Own w' W.heap.size v' U ∧ Below W.heap.size W w' by have := tPatch T hTg L hLw g b (n + 3) d (by omega) W hw hk; unfold PatchSaid at this; rw [hn, hK, hp1] at this; exact this))
  have HP2 := Lib.hid (fun W h b d hw hk => (show Calls Try.prog 27 #[.slice h m (m + 3), .slice b K2 d] W fun e w' => ∃ v', e = .returned v' ∧ Own w' W.heap.size v' T ∧ Below W.heap.size W w' by have := tPatch U hUg L2 hL2w h b (m + 3) d (by omega) W hw hk; unfold PatchSaid at this; rw [hm, hK2, hp2] at this; exact this))
  have HP3 := Lib.hid (fun W g hw => (show Calls Try.prog 27 #[.slice g n (n + 3), .slice none 0 0] W fun e w' => ∃ v', e = .returned v' ∧ Own w' W.heap.size v' T ∧ Below W.heap.size W w' by have := tPatch T hTg [] (fun e he => by simp at he) g none (n + 3) 0 (by simp; omega) W hw (fun i hi => by simp at hi); unfold PatchSaid at this; rw [hn] at this; exact this))
  have HSU := Lib.hid (fun W a b c d ha hb => (show Calls Try.prog 14 #[.slice a m c, .slice b m d] W fun e w' => e = .returned (.bool true) ∧ ∃ n, w' = W.drewN n by have := rSame U U a b c d (by unfold maxLen; omega) W ha hb; rw [sameB_self, hm] at this; exact this))
  have HST := Lib.hid (fun W a b c d ha hb => (show Calls Try.prog 14 #[.slice a n c, .slice b n d] W fun e w' => e = .returned (.bool true) ∧ ∃ n, w' = W.drewN n by have := rSame T T a b c d (by unfold maxLen; omega) W ha hb; rw [sameB_self, hn] at this; exact this))
  have HE1 := Lib.hid (fun W a b c d ha hb => (show Calls Try.prog 33 #[.slice a n c, .slice b m d] W fun e w' => e = .returned (.bool s) ∧ ∃ n, w' = W.drewN n by have := tSame T U a b c d (by unfold maxLen; omega) W ha hb; rw [hs, hn, hm] at this; exact this))
  have HE2 := Lib.hid (fun W a b c d ha hb => (show Calls Try.prog 33 #[.slice a n c, .slice b n d] W fun e w' => e = .returned (.bool true) ∧ ∃ n, w' = W.drewN n by have := tSame T T a b c d (by unfold maxLen; omega) W ha hb; rw [sameB_self, hn] at this; exact this))
  have HLT := Lib.hid (fun W p a c hw => (show Calls Try.prog 25 #[.slice a n c, .string p] W fun e w' => e = .returned (.int .u32 (lookL T p)) ∧ Below W.heap.size W w' by have := tLook T hTg.asc p a c (by omega) W hw; rw [hn] at this; exact this))
  have HLK := Lib.hid (fun W p a c hw => (show Calls Try.prog 25 #[.slice a m c, .string p] W fun e w' => e = .returned (.int .u32 (lookL U p)) ∧ Below W.heap.size W w' by have := tLook U hUg.asc p a c (by omega) W hw; rw [hm] at this; exact this))
  have HKT := Lib.hid (fun W g a c B (hb : OwnB W B g (n + 3) (T ++ sp)) hw => (show Calls Try.prog 18 #[.slice (some ⟨g, 0, none⟩) n (n + 3), .slice a n c] W fun e w' => e = .returned (.bool true) ∧ ∃ n, w' = W.drewN n by have := lKept T g a c B (by omega) W (by rw [hn]; exact hb) hw; rw [hn] at this; exact this))
  have HKU := Lib.hid (fun W g a c B (hb : OwnB W B g (m + 3) (U ++ sp)) hw => (show Calls Try.prog 18 #[.slice (some ⟨g, 0, none⟩) m (m + 3), .slice a m c] W fun e w' => e = .returned (.bool true) ∧ ∃ n, w' = W.drewN n by have := lKept U g a c B (by omega) W (by rw [hm]; exact hb) hw; rw [hm] at this; exact this))
  have HSP := Lib.hid (fun W v B (hv : Own W B v T) hB => lSpoilt T v B (by omega) W hv hB)
  have HKK := Lib.hid hK
  have HKK2 := Lib.hid hK2
  have hK4 : K ≤ 4000 := by omega
  clear h k hWx hWy hrxy hTg hUg hTw hUw hT hU hn hm hL hL2 hK hK2 hp1 hp2 hs hLw hL2w hLl hL2l
  go_enter Try.func9, Try.ntmps9
  go_wp2_with fail
  (with_reducible refine (HSt.out w).mono ?_)
  rintro e w1 ⟨rfl, hb⟩
  have HB1 := Lib.hid hb
  clear hb
  go_wp2_with fail
  (with_reducible refine (HGx.out _ (HX.out.below HB1.out)).mono ?_)
  rintro e w2 ⟨v2, rfl, ho2, hb⟩
  obtain ⟨a2, c2, rfl, he2, hs2⟩ := Own.sl ho2
  rw [HN.out]
  have hc21 : n ≤ c2 := by rw [← HN.out]; exact hs2.1
  have hc22 := hs2.2
  have HT2 := Lib.hid he2; have HB2 := Lib.hid (bl_trans HB1.out hb)
  clear ho2 he2 hb hs2
  go_wp2_with fail
  (with_reducible refine (HGy.out _ (HY.out.below HB2.out)).mono ?_)
  rintro e w3 ⟨v3, rfl, ho3, hb⟩
  obtain ⟨a3, c3, rfl, he3, hs3⟩ := Own.sl ho3
  rw [HM.out]
  have HU3 := Lib.hid he3; have HB3 := Lib.hid (bl_trans HB2.out hb); have HT3 := Lib.hid (HT2.out.below hb)
  clear ho3 he3 hb hs3
  go_wp2_with fail
  (with_reducible refine (HCT.out w3 a2 c2 HT3.out).mono ?_)
  rintro e w4 ⟨g, rfl, ho4, hb⟩
  have HO4 := Lib.hid ho4; have HB4 := Lib.hid (bl_trans HB3.out hb); have HT4 := Lib.hid (HT3.out.below hb); have HU4 := Lib.hid (HU3.out.below hb)
  clear ho4 hb
  go_wp2_with fail
  (with_reducible refine (HCU.out w4 a3 c3 HU4.out).mono ?_)
  rintro e w5 ⟨g', rfl, ho5, hb⟩
  have HP5 := Lib.hid ho5; have HB5 := Lib.hid (bl_trans HB4.out hb); have HT5 := Lib.hid (HT4.out.below hb); have HU5 := Lib.hid (HU4.out.below hb); have HO5 := Lib.hid (HO4.out.below hb)
  clear ho5 hb
  go_wp2_with fail
  (with_reducible refine (HD1.out w5 (some ⟨g, 0, none⟩) (some ⟨g', 0, none⟩) (ownB_first' HO5.out HN.out) (ownB_first' HP5.out HM.out)).mono ?_)
  rintro e w6 ⟨v6, rfl, ho6, hb⟩
  obtain ⟨al, cl, rfl, hl6, _, _⟩ := OwnC.at ho6
  rw [HKK.out]
  have HL6 := Lib.hid hl6; have HB6 := Lib.hid (bl_trans HB5.out hb); have HT6 := Lib.hid (HT5.out.below hb); have HU6 := Lib.hid (HU5.out.below hb); have HO6 := Lib.hid (HO5.out.below hb); have HP6 := Lib.hid (HP5.out.below hb); have HX6 := Lib.hid (HX.out.below HB6.out); have HY6 := Lib.hid (HY.out.below HB6.out)
  clear ho6 hl6 hb
  go_wp2_with fail
  (with_reducible refine (HRD.out w6 a2 a3 c2 c3 HT6.out HU6.out).mono ?_)
  rintro e w7 ⟨v7, rfl, ho7, hb⟩
  obtain ⟨a7, c7, rfl, hl7, _, _⟩ := OwnC.at ho7
  rw [HKK.out]
  have HL7 := Lib.hid hl7; have HB7 := Lib.hid hb
  clear ho7 hl7 hb
  go_wp2_with fail
  (with_reducible refine (HSC.out w7 al a7 cl c7 (HL6.out.below HB7.out) HL7.out).mono ?_)
  rintro e w8 ⟨rfl, nd8, rfl⟩
  have HB8 := Lib.hid (bl_drewN HB7.out nd8)
  generalize w7.drewN nd8 = w8 at *
  go_wp2_with fail
  (with_reducible refine (HP1.out w8 (some ⟨g, 0, none⟩) al cl (ownB_first' (HO6.out.below HB8.out) HN.out) (HL6.out.below HB8.out)).mono ?_)
  rintro e w9 ⟨v9, rfl, ho9, hb⟩
  obtain ⟨a9, c9, rfl, hl9, _⟩ := Own.sl ho9
  rw [HM.out]
  have HL9 := Lib.hid hl9; have HB9 := Lib.hid (bl_trans HB8.out hb)
  clear ho9 hl9 hb
  go_wp2_with fail
  (with_reducible refine (HSU.out w9 a9 a3 c9 c3 HL9.out (HU6.out.below HB9.out)).mono ?_)
  rintro e w10 ⟨rfl, nd10, rfl⟩
  have HB10 := Lib.hid (bl_drewN HB9.out nd10)
  generalize w9.drewN nd10 = w10 at *
  go_wp2_with fail
  (with_reducible refine (HD2.out w10 (some ⟨g, 0, none⟩) (some ⟨g', 0, none⟩) (ownB_first' (HO6.out.below HB10.out) HN.out) (ownB_first' (HP6.out.below HB10.out) HM.out)).mono ?_)
  rintro e w11 ⟨v11, rfl, ho11, hb⟩
  obtain ⟨a11, c11, rfl, hl11, _, _⟩ := OwnC.at ho11
  rw [HKK2.out]
  have HL11 := Lib.hid hl11; have HB11 := Lib.hid (bl_trans HB10.out hb)
  clear ho11 hl11 hb
  go_wp2_with fail
  (with_reducible refine (HP2.out w11 (some ⟨g', 0, none⟩) a11 c11 (ownB_first' (HP6.out.below HB11.out) HM.out) HL11.out).mono ?_)
  rintro e w12 ⟨v12, rfl, ho12, hb⟩
  obtain ⟨a12, c12, rfl, hl12, _⟩ := Own.sl ho12
  rw [HN.out]
  have HL12 := Lib.hid hl12; have HB12 := Lib.hid (bl_trans HB11.out hb)
  clear ho12 hl12 hb
  go_wp2_with fail
  (with_reducible refine (HST.out w12 a12 a2 c12 c2 HL12.out (HT6.out.below HB12.out)).mono ?_)
  rintro e w13 ⟨rfl, nd13, rfl⟩
  have HB13 := Lib.hid (bl_drewN HB12.out nd13)
  generalize w12.drewN nd13 = w13 at *
  go_wp2_with fail
  (with_reducible refine (HE1.out w13 (some ⟨g, 0, none⟩) (some ⟨g', 0, none⟩) _ _ (ownB_first' (HO6.out.below HB13.out) HN.out) (ownB_first' (HP6.out.below HB13.out) HM.out)).mono ?_)
  rintro e w14 ⟨rfl, nd14, rfl⟩
  have HB14 := Lib.hid (bl_drewN HB13.out nd14)
  generalize w13.drewN nd14 = w14 at *
  go_wp2_with fail
  (with_reducible refine (HE2.out w14 (some ⟨g, 0, none⟩) a2 _ _ (ownB_first' (HO6.out.below HB14.out) HN.out) (HT6.out.below HB14.out)).mono ?_)
  rintro e w15 ⟨rfl, nd15, rfl⟩
  have HB15 := Lib.hid (bl_drewN HB14.out nd15)
  generalize w14.drewN nd15 = w15 at *
  go_wp2_with fail
  (with_reducible refine (HSxy.out w15 (HX6.out.below HB15.out) (HY6.out.below HB15.out)).mono ?_)
  rintro e w16 ⟨rfl, nd16, rfl⟩
  have HB16 := Lib.hid (bl_drewN HB15.out nd16)
  generalize w15.drewN nd16 = w16 at *
  go_wp2_with fail
  (with_reducible refine (HRxy.out w16 (HX6.out.below HB16.out) (HY6.out.below HB16.out)).mono ?_)
  rintro e w17 ⟨rfl, nd17, rfl⟩
  have HB17 := Lib.hid (bl_drewN HB16.out nd17)
  generalize w16.drewN nd17 = w17 at *
  clear HSt HGx HGy HSxy HRxy HCT HCU HD1 HD2 HRD HSC HP1 HP2 HSU HST HE1 HE2 HX6 HY6 HX HY HL7 HL9 HL11 HL12
  have HB17' := Lib.hid (bl_trans HB6.out HB17.out)
  clear HB1 HB2 HB3 HB4 HB5 HT2 HT3 HT4 HT5 HU3 HU4 HU5 HO4 HO5 HP5
  go_wp2_with fail
  go_loopw [73] (fun iv wr => ∃ k : Nat, k ≤ K ∧ iv = .int .i64 k ∧ Below w6.heap.size w6 wr) (fun iv _ => K - (intOf iv).toNat)
  case atStart => exact ⟨0, Nat.zero_le _, rfl, HB17.out⟩
  case round =>
    obtain ⟨k, hk, rfl, hbel⟩ := hrel
    have HBk := Lib.hid hbel
    clear hbel
    by_cases hlt : k < K
    · obtain ⟨lb, lo, hal, _, p1, p2, p3⟩ := HL6.out k (by rw [HKK.out]; exact hlt)
      subst hal
      obtain ⟨p, x', y', hx⟩ : ∃ p x y, L[k]'(by rw [HKK.out]; exact hlt) = (p, x, y) := ⟨_, _, _, rfl⟩
      rw [hx] at p1 p2 p3
      have hh := HLA.out k (by rw [HKK.out]; exact hlt) p x' y' hx
      obtain ⟨hxy, hlt1, hlt2⟩ := hh
      have hxe : (x' == y') = false := by simpa using hxy
      have p1' := bl_cell HBk.out p1
      have p2' := bl_cell HBk.out p2
      have p3' := bl_cell HBk.out p3
      have HHX := Lib.hid hx
      have c1 : (wr.alloc (.cells #[.string p, .int .u32 x', .int .u32 y'] 49)).cell? ⟨wr.heap.size, 0, none⟩ = some (.string p) := by rw [World.cell?_alloc_new]; rfl
      have c2' : (wr.alloc (.cells #[.string p, .int .u32 x', .int .u32 y'] 49)).cell? ⟨wr.heap.size, 1, none⟩ = some (.int .u32 x') := by rw [World.cell?_alloc_mark]; rfl
      have c3' : (wr.alloc (.cells #[.string p, .int .u32 x', .int .u32 y'] 49)).cell? ⟨wr.heap.size, 2, none⟩ = some (.int .u32 y') := by rw [World.cell?_alloc_mark]; rfl
      have hb0 : Below w6.heap.size w6 (wr.alloc (.cells #[.string p, .int .u32 x', .int .u32 y'] 49)) := bl_alloc HBk.out _
      have HLT1 := Lib.hid hlt1; have HLT2 := Lib.hid hlt2
      clear hx hxy p1 p2 p3 hlt1 hlt2
      go_wp2_with fail
      clear p1' p2' p3'
      generalize wr.alloc (.cells #[.string p, .int .u32 x', .int .u32 y'] 49) = W0 at *
      generalize wr.heap.size = xb at *
      have HB0 := Lib.hid hb0
      clear hb0 HBk
      have HQ1 := Lib.hid (fun z : Beyond W0 => Go.Proofs.Ytdjpmgkcgpkkmaa.Calls.beyond z.b (show Calls Try.prog 25 #[.slice a2 n c2, .string p] z.x fun e w' => e = .returned (.int .u32 x') ∧ Below z.x.heap.size z.x w' by have := HLT.out z.x p a2 c2 (HT6.out.below (bl_trans HB0.out z.b)); rw [HLT1.out] at this; exact this))
      have HQ2 := Lib.hid (fun z : Beyond W0 => Go.Proofs.Ytdjpmgkcgpkkmaa.Calls.beyond z.b (show Calls Try.prog 25 #[.slice a3 m c3, .string p] z.x fun e w' => e = .returned (.int .u32 y') ∧ Below z.x.heap.size z.x w' by have := HLK.out z.x p a3 c3 (HU6.out.below (bl_trans HB0.out z.b)); rw [HLT2.out] at this; exact this))
      have C1 : ∀ z : Beyond W0, z.x.cell? ⟨xb, 0, none⟩ = some (.string p) := fun z => bl_cell z.b c1
      have C2 : ∀ z : Beyond W0, z.x.cell? ⟨xb, 1, none⟩ = some (.int .u32 x') := fun z => bl_cell z.b c2'
      have C3 : ∀ z : Beyond W0, z.x.cell? ⟨xb, 2, none⟩ = some (.int .u32 y') := fun z => bl_cell z.b c3'
      clear c1 c2' c3'
      have hxx1 : (x' != x') = false := by simp
      have hxx2 : (y' != y') = false := by simp
      by_cases hk0 : k = 0
      · subst hk0
        have hd0 : decide ((0 : Int) < 0) = false := rfl
        simp only [Int.natCast_zero]
        refine wp_region_beyond (by kernel_rfl) (by kernel_rfl) ?_
        repeat (go_big_quiet_step ((go_at_call 25; first | (with_reducible exact HQ1.out _) | (with_reducible exact HQ2.out _))))
        refine wpQuiet_nil ?_
        intro _ hw'
        obtain ⟨pq, hw''⟩ := hw'
        subst hw''
        have HBq := Lib.hid pq.b
        generalize pq.x = W1 at *
        go_wp2
        go_roundw
        case rel => exact ⟨1, by omega, by go_num, bl_trans HB0.out HBq.out⟩
        case measure => simp [intOf]; omega
      · have hk1 : (0 : Int) < (k : Int) := by omega
        have hd0 : decide ((0 : Int) < (k : Int)) = true := by simp; omega
        have hk2 : 0 < k := by omega
        have hd2 : decide (0 < k) = true := by simp; omega
        have hkw : IntKind.i64.wrap ((k : Int) - 1) = (k : Int) - 1 := IntWalk.i64_in _ (by omega)
        have hkl : 0 ≤ (k : Int) - 1 := by omega
        have hkK : (k : Int) - 1 < (K : Int) := by omega
        have hkn : ((k : Int) - 1).toNat = k - 1 := by omega
        obtain ⟨_, _, hal, _, q1, _, _⟩ := HL6.out (k - 1) (by rw [HKK.out]; omega)
        cases hal
        obtain ⟨q, u', v', hy⟩ : ∃ p x y, L[k - 1]'(by rw [HKK.out]; omega) = (p, x, y) := ⟨_, _, _, rfl⟩
        rw [hy] at q1
        have hup := HLU.out (k - 1) (by rw [HKK.out]; omega)
        have hup2 : ltB q p = true := by
          have e1 : L[k - 1 + 1]'(by rw [HKK.out]; omega) = L[k]'(by rw [HKK.out]; omega) := by congr 1; omega
          rw [e1, HHX.out, hy] at hup
          exact hup
        have hbl1 : Op.bytesLess q.toList p.toList = true := by rw [bless]; exact hup2
        have hbl2 : Op.bytesLess p.toList q.toList = false := by rw [bless]; exact ltB_asym hup2
        have hqe : (q.toList == p.toList) = false := str_eq (ltB_ne hup2)
        have C4 : ∀ z : Beyond W0, z.x.cell? ⟨lb, lo + (k - 1) * 3, none⟩ = some (.string q) := fun z => bl_cell z.b (bl_cell HB0.out q1)
        clear hup hup2 hy q1
        refine wp_region_beyond (by kernel_rfl) (by kernel_rfl) ?_
        repeat (go_big_quiet_step ((go_at_call 25; first | (with_reducible exact HQ1.out _) | (with_reducible exact HQ2.out _))))
        refine wpQuiet_nil ?_
        intro _ hw'
        obtain ⟨pq, hw''⟩ := hw'
        subst hw''
        have HBq := Lib.hid pq.b
        generalize pq.x = W1 at *
        go_wp2
        go_roundw
        case rel => exact ⟨k + 1, by omega, by go_num, bl_trans HB0.out HBq.out⟩
        case measure => simp [intOf]; omega
    · clear HLT HLK HLA HLU
      go_wp2_with fail
      (with_reducible refine (HP3.out wr (some ⟨g, 0, none⟩) (ownB_first' (HO6.out.below HBk.out) HN.out)).mono ?_)
      rintro e w19 ⟨v19, rfl, ho19, hb⟩
      have HO19 := Lib.hid ho19; have HB19 := Lib.hid hb
      clear ho19 hb
      go_wp2_with fail
      (with_reducible refine (HSP.out w19 v19 _ HO19.out HB19.out.size).mono ?_)
      rintro e w20 ⟨rfl, hg⟩
      have HB20 := Lib.hid (gb_over HBk.out HB19.out hg (fun i hi => by have h1 := (HO19.out.lt i hi).1; have h2 := HBk.out.size; omega))
      clear hg
      go_wp2_with fail
      (with_reducible refine (HKT.out w20 g a2 c2 _ (HO6.out.below HB20.out) (HT6.out.below HB20.out)).mono ?_)
      rintro e w21 ⟨rfl, nd21, rfl⟩
      have HB21 := Lib.hid (bl_drewN HB20.out nd21)
      generalize w20.drewN nd21 = w21 at *
      go_wp2_with fail
      (with_reducible refine (HKU.out w21 g' a3 c3 _ (HP6.out.below HB21.out) (HU6.out.below HB21.out)).mono ?_)
      rintro e w22 ⟨rfl, nd22, rfl⟩
      have HB22 := Lib.hid (bl_drewN HB21.out nd22)
      generalize w21.drewN nd22 = w22 at *
      go_wp2_with fail
      (with_reducible refine (HD3.out w22 (some ⟨g, 0, none⟩) a2 c2 hc21 hc22 (ownB_first' (HO6.out.below HB22.out) HN.out) (HT6.out.below HB22.out)).mono ?_)
      rintro e w23 ⟨v23, rfl, ho23, hb⟩
      obtain ⟨a23, c23, rfl, _, _, _⟩ := OwnC.at ho23
      have HB23 := Lib.hid (bl_trans (bl_trans HB6.out HB22.out) hb)
      clear ho23 hb
      go_wp2
      go_ret
      exact ⟨rfl, HB23.out⟩
end Go.Proofs.Ytdjpmgkcgpkkmaa
