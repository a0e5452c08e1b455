/- The law TreePatches, walked. -/
import Derived.Test.YtdjpmgkcgpkkmaaTrPr
import Derived.Test.YtdjpmgkcgpkkmaaTrCk
import Derived.Test.YtdjpmgkcgpkkmaaTrSt
import Derived.Test.YtdjpmgkcgpkkmaaTrW7
set_option linter.unusedVariables false
set_option linter.unusedSimpArgs false
namespace Go.Proofs.Ytdjpmgkcgpkkmaa
open Go.RowKit TrMath

theorem ownB_first {w : World} {B g n c : Nat} {l : Ents} (h : OwnB w B g c (l ++ sp)) (hn : l.length = n) : EnAt w (some ⟨g, 0, none⟩) l := by
  subst hn
  have := (h.take l.length).at
  rwa [List.take_left] at this

set_option maxHeartbeats 2000000 in
set_option maxRecDepth 100000 in
theorem treePatches (x : Ents) (hW : Words x) (a : Option Addr) (c : Nat) (hcl : x.length ≤ c) (hcm : c ≤ maxLen) (l : Chs) (hWC : WordsC l) (b : Option Addr) (d : Nat) (hdl : l.length ≤ d) (hdm : d ≤ maxLen) (w : World) (h : EnAt w a x) (k : ChAt w b l) :
    Calls Try.prog 7 #[.slice a x.length c, .slice b l.length d] w fun e w' => e = .returned (.bool true) ∧ Below w.heap.size w w' := by
  have hl : x.length ≤ maxLen := Nat.le_trans hcl hcm
  have HA := Lib.hid h
  have HSt := Lib.hid (fun W => lStands W)
  have HG := Lib.hid (fun W hw => lGood x hW a c hcl hcm hl W hw)
  have hgl := good_len x
  have hgg := good_good x
  obtain ⟨T, hT⟩ : ∃ T, goodL x = T := ⟨_, rfl⟩
  rw [hT] at HG hgl hgg
  obtain ⟨L, hL⟩ : ∃ L, l.take 300 = L := ⟨_, rfl⟩
  obtain ⟨m, hm⟩ : ∃ m, L.length = m := ⟨_, rfl⟩
  have hLW : WordsC L := by rw [← hL]; exact hWC.take _
  have HKL := Lib.hid (show ChAt w b L by rw [← hL]; exact k.take _)
  have hm1 : m = min l.length 300 := by rw [← hm, ← hL, List.length_take]; omega
  have hm2 : m ≤ 300 := by omega
  have hm3 : m ≤ l.length := by omega
  have hm4 : m ≤ d := by omega
  have hmz : min (l.length : Int) 300 = (m : Int) := by omega
  have hmz2 : (if (300 : Int) < (l.length : Int) then (300 : Int) else (l.length : Int)) = (m : Int) := by split <;> omega
  unfold maxLen at hdm
  obtain ⟨n, hn⟩ : ∃ n, T.length = n := ⟨_, rfl⟩
  have HN := Lib.hid hn
  obtain ⟨R, hR⟩ : ∃ R, patchL T L = R := ⟨_, rfl⟩
  have hRl := patch_len T L
  have hRg := patch_good hgg L
  rw [hR] at hRl hRg
  have HC := Lib.hid (fun W a c hw => (show Calls Try.prog 11 #[.slice a n c] W fun e w' => ∃ g, e = .returned (.slice (some ⟨g, 0, none⟩) n (n + 3)) ∧ OwnB w' W.heap.size g (n + 3) (T ++ sp) ∧ Below W.heap.size W w' by have := lCopied T a c (by omega) W hw; rw [hn] at this; exact this))
  have HK := Lib.hid (fun W g a c B (hb : OwnB W B g (n + 3) (T ++ sp)) hw => (show Calls Try.prog 18 #[.slice (some ⟨g, 0, none⟩) n (n + 3), .slice a n c] W fun e w' => e = .returned (.bool true) ∧ ∃ n, w' = W.drewN n by have := lKept T g a c B (by omega) W (by rw [hn]; exact hb) hw; rw [hn] at this; exact this))
  have HTP := Lib.hid (fun W a c d hw hk => (show Calls Try.prog 27 #[.slice a n c, .slice b m d] W fun e w' => ∃ v', e = .returned v' ∧ Own w' W.heap.size v' R ∧ Below W.heap.size W w' by have := tPatch T hgg L hLW a b c d (by omega) W hw hk; unfold PatchSaid at this; rw [hn, hm, hR] at this; exact this))
  have HRP := Lib.hid (fun W a c d hw hk => (show Calls Try.prog 28 #[.slice a n c, .slice b m d] W fun e w' => ∃ v', e = .returned v' ∧ Own w' W.heap.size v' R ∧ Below W.heap.size W w' by have := rPatch T L hLW a b c d (by omega) W hw hk; unfold PatchSaid at this; rw [hn, hm, hR] at this; exact this))
  have HSm := Lib.hid (fun W a b c d ha hb => (show Calls Try.prog 14 #[.slice a R.length c, .slice b R.length d] W fun e w' => e = .returned (.bool true) ∧ ∃ n, w' = W.drewN n by have := rSame R R a b c d (by unfold maxLen; omega) W ha hb; rw [sameB_self] at this; exact this))
  have HCk := Lib.hid (fun W a c hw => (show Calls Try.prog 15 #[.slice a R.length c] W fun e w' => e = .returned (.int .i64 0) ∧ Below W.heap.size W w' by have := tCheck R a c (by unfold maxLen; omega) W hw; rw [chk_good hRg] at this; exact this))
  clear h k hW hWC hgg hT hn hL hm hLW hR hRg hm1
  go_enter Try.func7, Try.ntmps7
  go_wp2_with fail
  (with_reducible refine (HSt.out w).mono ?_)
  rintro e w1 ⟨rfl, hb⟩
  have HB1 := Lib.hid hb
  clear hb
  go_wp2_with fail
  (with_reducible refine (HG.out _ (HA.out.below HB1.out)).mono ?_)
  rintro e w2 ⟨v2, rfl, ho2, hb⟩
  obtain ⟨a2, c2, rfl, he2, hs2⟩ := Own.sl ho2
  rw [HN.out]
  have HT2 := Lib.hid he2; have HB2 := Lib.hid (bl_trans HB1.out hb)
  clear ho2 he2 hb hs2
  go_wp2_with fail
  (with_reducible refine (HC.out w2 a2 c2 HT2.out).mono ?_)
  rintro e w3 ⟨g, rfl, ho3, hb⟩
  have HO3 := Lib.hid ho3; have HB3 := Lib.hid (bl_trans HB2.out hb); have HT3 := Lib.hid (HT2.out.below hb)
  clear ho3 hb
  go_wp2_with fail
  (with_reducible refine (HTP.out w3 _ _ _ (ownB_first HO3.out HN.out) (HKL.out.below HB3.out)).mono ?_)
  rintro e w4 ⟨v4, rfl, ho4, hb⟩
  obtain ⟨a4, c4, rfl, he4, _⟩ := Own.sl ho4
  have HE4 := Lib.hid he4; have HB4 := Lib.hid (bl_trans HB3.out hb); have HT4 := Lib.hid (HT3.out.below hb); have HO4 := Lib.hid (HO3.out.below hb)
  clear ho4 he4 hb
  go_wp2_with fail
  (with_reducible refine (HRP.out w4 a2 c2 _ HT4.out (HKL.out.below HB4.out)).mono ?_)
  rintro e w5 ⟨v5, rfl, ho5, hb⟩
  obtain ⟨a5, c5, rfl, he5, _⟩ := Own.sl ho5
  have HE5 := Lib.hid he5; have HB5 := Lib.hid (bl_trans HB4.out hb); have HT5 := Lib.hid (HT4.out.below hb); have HO5 := Lib.hid (HO4.out.below hb); have HF5 := Lib.hid (HE4.out.below hb)
  clear ho5 he5 hb
  go_wp2_with fail
  (with_reducible refine (HSm.out w5 a4 a5 c4 c5 HF5.out HE5.out).mono ?_)
  rintro e w6 ⟨rfl, nd, rfl⟩
  have HB6 := Lib.hid (bl_drewN HB5.out nd)
  have HT6 := Lib.hid (show EnAt (w5.drewN nd) a2 T from HT5.out)
  have HO6 := Lib.hid (show OwnB (w5.drewN nd) w2.heap.size g (n + 3) (T ++ sp) from HO5.out)
  have HF6 := Lib.hid (show EnAt (w5.drewN nd) a4 R from HF5.out)
  generalize w5.drewN nd = w6 at *
  go_wp2_with fail
  (with_reducible refine (HCk.out w6 a4 c4 HF6.out).mono ?_)
  rintro e w7 ⟨rfl, hb⟩
  have HB7 := Lib.hid (bl_trans HB6.out hb); have HT7 := Lib.hid (HT6.out.below hb); have HO7 := Lib.hid (HO6.out.below hb)
  clear hb
  go_wp2_with fail
  (with_reducible refine (HK.out w7 g a2 c2 _ HO7.out HT7.out).mono ?_)
  rintro e w8 ⟨rfl, nd2, rfl⟩
  go_wp2
  go_ret
  exact ⟨rfl, bl_drewN HB7.out _⟩
end Go.Proofs.Ytdjpmgkcgpkkmaa
