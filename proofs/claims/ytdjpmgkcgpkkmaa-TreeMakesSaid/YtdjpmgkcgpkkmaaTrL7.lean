/- The law TreeMakes, walked. -/
import Derived.Test.YtdjpmgkcgpkkmaaTrSm4
import Derived.Test.YtdjpmgkcgpkkmaaTrCk
import Derived.Test.YtdjpmgkcgpkkmaaTrSt
import Derived.Test.YtdjpmgkcgpkkmaaTrW7
set_option linter.unusedVariables false
set_option linter.unusedSimpArgs false
namespace Go.Proofs.Ytdjpmgkcgpkkmaa
open Go.RowKit TrMath

theorem ownB_first7 {w : World} {B g n c : Nat} {l : Ents} (h : OwnB w B g c (l ++ sp)) (hn : l.length = n) : EnAt w (some ⟨g, 0, none⟩) l := by
  subst hn
  have := (h.take l.length).at
  rwa [List.take_left] at this
theorem en_take7 {w : World} {a : Option Addr} {l : Ents} (h : EnAt w a l) (n : Nat) : EnAt w a (l.take n) := fun i hi => by
  have hl : i < l.length := by rw [List.length_take] at hi; omega
  obtain ⟨b, off, h1, h0, h2, h3⟩ := h i hl
  exact ⟨b, off, h1, h0, by rw [List.getElem_take]; exact h2, by rw [List.getElem_take]; exact h3⟩
theorem mkT_good (l : Ents) : TrMath.Good (mkT l) := by
  unfold mkT
  split
  · exact TrMath.Good.nil
  · exact foldP_good TrMath.Good.nil _
theorem mkT_len (l : Ents) : (mkT l).length ≤ l.length := by
  unfold mkT
  split
  · simp
  · have := foldP_len [] l
    simpa using this
theorem below_gb {w x y z : World} {v : Value} (h : Below w.heap.size w x) (k : Below x.heap.size x y) (g : y.grownBy z v.ownBlock) (hv : ∀ i, v.ownBlock = some i → w.heap.size ≤ i) : Below w.heap.size w z :=
  gb_to_below (bl_trans h k) g (bl_trans h k).size hv

set_option maxHeartbeats 4000000 in
set_option maxRecDepth 100000 in
theorem treeMakes (x : Ents) (hW : Words x) (a : Option Addr) (c : Nat) (hcl : x.length ≤ c) (hcm : c ≤ maxLen) (w : World) (h : EnAt w a x) :
    Calls Try.prog 3 #[.slice a x.length c] w fun e w' => e = .returned (.bool true) ∧ Below w.heap.size w w' := by
  have HSt := Lib.hid (fun W => lStands W)
  obtain ⟨L, hL⟩ : ∃ L, x.take 2000 = L := ⟨_, rfl⟩
  have HA := Lib.hid (show EnAt w a L by rw [← hL]; exact en_take7 h _)
  have hLW : Words L := by rw [← hL]; exact fun e he => hW e (List.mem_of_mem_take he)
  obtain ⟨m, hm⟩ : ∃ m, L.length = m := ⟨_, rfl⟩
  have hm1 : m = min x.length 2000 := by rw [← hm, ← hL, List.length_take]; omega
  have hm2 : m ≤ 2000 := by omega
  have hm3 : m ≤ x.length := by omega
  have hm4 : m ≤ c := by omega
  have hmz : min (x.length : Int) 2000 = (m : Int) := by omega
  have hmz2 : (if (2000 : Int) < (x.length : Int) then (2000 : Int) else (x.length : Int)) = (m : Int) := by split <;> omega
  unfold maxLen at hcm
  have HM := Lib.hid hm
  obtain ⟨R, hR⟩ : ∃ R, mkT L = R := ⟨_, rfl⟩
  obtain ⟨E, hE⟩ : ∃ E, mkE L = E := ⟨_, rfl⟩
  have hRg := mkT_good L
  have hRl := mkT_len L
  rw [hR] at hRg hRl
  obtain ⟨ck, hck⟩ : ∃ r, chkL L = r := ⟨_, rfl⟩
  have hEE : (E != E) = false := by simp
  have hcc : (ck != ck) = false := by simp
  have HC := Lib.hid (fun W a c hw => (show Calls Try.prog 11 #[.slice a m c] W fun e w' => ∃ g, e = .returned (.slice (some ⟨g, 0, none⟩) m (m + 3)) ∧ OwnB w' W.heap.size g (m + 3) (L ++ sp) ∧ Below W.heap.size W w' by have := lCopied L a c (by omega) W hw; rw [hm] at this; exact this))
  have HK := Lib.hid (fun W g a c B (hb : OwnB W B g (m + 3) (L ++ sp)) hw => (show Calls Try.prog 18 #[.slice (some ⟨g, 0, none⟩) m (m + 3), .slice a m c] W fun e w' => e = .returned (.bool true) ∧ ∃ n, w' = W.drewN n by have := lKept L g a c B (by omega) W (by rw [hm]; exact hb) hw; rw [hm] at this; exact this))
  have HTM := Lib.hid (fun W a c hw => (show Calls Try.prog 12 #[.slice a m c] W fun e w' => ∃ v', e = .returned (.tuple #[v', .int .i64 E]) ∧ Own w' W.heap.size v' R ∧ Below W.heap.size W w' by have := tMake L (sorts_all L (by omega)) a c (by omega) W hw; unfold MakeSaid at this; rw [hm, hR, hE] at this; exact this))
  have HRM := Lib.hid (fun W a c hw => (show Calls Try.prog 13 #[.slice a m c] W fun e w' => ∃ v', e = .returned (.tuple #[v', .int .i64 E]) ∧ Own w' W.heap.size v' R ∧ Below W.heap.size W w' by have := rMake L hLW a c (by omega) W hw; unfold MakeSaid at this; rw [hm, hR, hE] at this; exact this))
  have HSm := Lib.hid (fun W a b c d ha hb => (show Calls Try.prog 14 #[.slice a R.length c, .slice b R.length d] W fun e w' => e = .returned (.bool true) ∧ ∃ n, w' = W.drewN n by have := rSame R R a b c d (by unfold maxLen; omega) W ha hb; rw [sameB_self] at this; exact this))
  have HCk := Lib.hid (fun W a c hw => (show Calls Try.prog 15 #[.slice a R.length c] W fun e w' => e = .returned (.int .i64 0) ∧ Below W.heap.size W w' by have := tCheck R a c (by unfold maxLen; omega) W hw; rw [chk_good hRg] at this; exact this))
  have HCL := Lib.hid (fun W a c hw => (show Calls Try.prog 15 #[.slice a m c] W fun e w' => e = .returned (.int .i64 ck) ∧ Below W.heap.size W w' by have := tCheck L a c (by unfold maxLen; omega) W hw; rw [hm, hck] at this; exact this))
  have HRL := Lib.hid (fun W a c hw => (show Calls Try.prog 16 #[.slice a m c] W fun e w' => e = .returned (.int .i64 ck) ∧ Below W.heap.size W w' by have := rCheck L a c (by unfold maxLen; omega) W hw; rw [hm, hck] at this; exact this))
  have HSP := Lib.hid (fun W v B (hv : Own W B v R) hB => lSpoilt R v B (by omega) W hv hB)
  clear h hW hL hLW hm hR hE hRg hRl hck hm1
  go_enter Try.func3, Try.ntmps3
  go_wp2_with fail
  (with_reducible refine (HSt.out w).mono ?_)
  rintro e w1 ⟨rfl, hb⟩
  have HB1 := Lib.hid hb; have HA1 := Lib.hid (HA.out.below hb)
  clear hb
  go_wp2_with fail
  (with_reducible refine (HC.out w1 a c HA1.out).mono ?_)
  rintro e w2 ⟨g, rfl, ho, hb⟩
  have HO2 := Lib.hid ho; have HB2 := Lib.hid (bl_trans HB1.out hb); have HA2 := Lib.hid (HA1.out.below hb)
  clear ho hb
  go_wp2_with fail
  (with_reducible refine (HTM.out w2 (some ⟨g, 0, none⟩) (m + 3) (ownB_first7 HO2.out HM.out)).mono ?_)
  rintro e w3 ⟨v3, rfl, ho3, hb⟩
  obtain ⟨a3, c3, hv3, he3, _⟩ := Own.sl ho3
  have HO3 := Lib.hid ho3; have HV3 := Lib.hid hv3; have HE3 := Lib.hid he3; have HB3 := Lib.hid hb
  subst hv3
  clear ho3 he3 hb
  go_wp2_with fail
  (with_reducible refine (HRM.out w3 a c (HA2.out.below HB3.out)).mono ?_)
  rintro e w4 ⟨v4, rfl, ho4, hb⟩
  obtain ⟨a4, c4, rfl, he4, _⟩ := Own.sl ho4
  have HO4 := Lib.hid ho4; have HE4 := Lib.hid he4; have HB34 := Lib.hid hb; have HB4 := Lib.hid (bl_trans HB3.out hb)
  clear ho4 he4 hb
  go_wp2_with fail
  (with_reducible refine (HSm.out w4 a3 a4 c3 c4 (HE3.out.below HB34.out) HE4.out).mono ?_)
  rintro e w5 ⟨rfl, nd, rfl⟩
  have HB45 := Lib.hid (bl_drewN (Below.refl w4.heap.size w4) nd)
  generalize w4.drewN nd = w5 at *
  go_wp2_with fail
  (with_reducible refine (HCL.out w5 (some ⟨g, 0, none⟩) (m + 3) (ownB_first7 (HO2.out.below (bl_trans HB4.out HB45.out)) HM.out)).mono ?_)
  rintro e w6 ⟨rfl, hb⟩
  have HB46 := Lib.hid (bl_trans HB45.out hb)
  clear hb
  go_wp2_with fail
  (with_reducible refine (HRL.out w6 a c (HA2.out.below (bl_trans HB4.out HB46.out))).mono ?_)
  rintro e w7 ⟨rfl, hb⟩
  have HB47 := Lib.hid (bl_trans HB46.out hb)
  clear hb
  go_wp2_with fail
  (with_reducible refine (HCk.out w7 a3 c3 (HE3.out.below (bl_trans HB34.out HB47.out))).mono ?_)
  rintro e w8 ⟨rfl, hb⟩
  have HB48 := Lib.hid (bl_trans HB47.out hb)
  clear hb
  go_wp2_with fail
  have hw38 := bl_trans HB34.out HB48.out
  have hO8 := HO3.out.below hw38
  have hlt3 := HO3.out.lt
  (with_reducible refine (HSP.out w8 _ _ hO8 (Nat.le_trans HB3.out.size hw38.size)).mono ?_)
  rintro e w9 ⟨rfl, hg⟩
  have HB29 := Lib.hid (below_gb HB3.out hw38 hg (fun i hi => (hlt3 i hi).1))
  have hlt4 := HO4.out.lt
  have HE9 := Lib.hid (show EnAt w9 a4 R from gb_EnAt (HE4.out.below HB48.out) hg (fun p hp k => by
    subst hp
    have h1 := (hlt4 p.block rfl).1
    have h2 := (hlt3 p.block k.symm).2
    omega))
  clear hg hw38 hO8 hlt3 hlt4
  go_wp2_with fail
  (with_reducible refine (HTM.out w9 (some ⟨g, 0, none⟩) (m + 3) (ownB_first7 (HO2.out.below HB29.out) HM.out)).mono ?_)
  rintro e w10 ⟨v10, rfl, ho10, hb⟩
  obtain ⟨a10, c10, rfl, he10, _⟩ := Own.sl ho10
  have HE10 := Lib.hid he10; have HB910 := Lib.hid hb
  clear ho10 he10 hb
  go_wp2_with fail
  (with_reducible refine (HSm.out w10 a10 a4 c10 c4 HE10.out (HE9.out.below HB910.out)).mono ?_)
  rintro e w11 ⟨rfl, nd2, rfl⟩
  have HB11 := Lib.hid (bl_drewN (bl_trans HB29.out HB910.out) nd2)
  generalize w10.drewN nd2 = w11 at *
  go_wp2_with fail
  (with_reducible refine (HK.out w11 g a c _ (HO2.out.below HB11.out) (HA2.out.below HB11.out)).mono ?_)
  rintro e w12 ⟨rfl, nd3, rfl⟩
  go_wp2
  go_ret
  exact ⟨rfl, bl_drewN (bl_trans HB2.out HB11.out) _⟩
end Go.Proofs.Ytdjpmgkcgpkkmaa
