/- Layer 13: filters of two trees; The good tree of any list, of few entries. -/
import Derived.Test.YtbhfbdcmamodcaaGreatDoorR19
import Derived.Test.YtbhfbdcmamodcaaGreatDoorR25
import Derived.Test.YtbhfbdcmamodcaaGreatDoorR31
import Derived.Deep.RegionLaw
set_option linter.unusedVariables false
set_option linter.unusedSimpArgs false
namespace Go.Proofs.YtbhfbdcmamodcaaGreatDoor
open Go.RowKit TrMath
set_option maxHeartbeats 4000000 in
set_option maxRecDepth 100000 in
theorem bOf (H P M : Int) (S : Nat) (hS : S < 4294967296) (A B : Ents) (hA : TrMath.Good A) (hB : TrMath.Good B) (a b : Option Addr) (c d : Nat) (hc : A.length ≤ c) (hd : B.length ≤ d) (hcm : c ≤ maxLen) (hdm : d ≤ maxLen) (hl : A.length + B.length ≤ 1000000) (w : World) (h : EnAt w a A) (k : EnAt w b B) :
    Calls Tryz.prog 100 #[.agg #[.int .i64 H, .int .i64 P, .int .i64 M, .int .u32 S], .slice a A.length c, .slice b B.length d] w (MkSaid (makeR H P M S (pathsL (diffL A B))) w) := by
  obtain ⟨i0, hi, hz0, hz1, hz2⟩ := info_parts infoStr
  have HD := Lib.hid (fun W hw hk => tDiff A B hA.nz hB.nz a b c d hc hd hcm hdm (by omega) W hw hk)
  have hsh := paths_short hA hB
  have hlen := diff_len A B
  obtain ⟨L, hL⟩ : ∃ L, diffL A B = L := ⟨_, rfl⟩
  unfold DiffSaid at HD
  rw [hL] at HD hsh hlen
  rw [hL]
  obtain ⟨K, hK⟩ : ∃ K, L.length = K := ⟨_, rfl⟩
  have HK := Lib.hid hK
  have hK2 : K ≤ 1000000 := by omega
  have HSH := Lib.hid hsh
  have HMk := Lib.hid (fun W x cc n (hn : n = (pathsL L).length) hs => show Calls Tryz.prog 162 #[.agg #[.int .i64 H, .int .i64 P, .int .i64 M, .int .u32 S], .slice x n cc] W (MkSaid (makeR H P M S (pathsL L)) W) from by subst hn; exact blMake H P M S hS x cc (pathsL L) (by rw [paths_len]; unfold maxLen; omega) W hs)
  obtain ⟨er, st, bb, hR⟩ : ∃ er st bb, makeR H P M S (pathsL L) = (er, (st, bb)) := ⟨_, _, _, rfl⟩
  have HF := Lib.hid hR
  have HR0 := Lib.hid (FilAt.start w H P M S)
  have HA := Lib.hid h; have HB := Lib.hid k
  clear h k hA hB hL hK hsh hlen hR hS hc hd hcm hdm
  go_enter Tryz.func100, Tryz.ntmps100
  go_wp2_with fail
  (with_reducible refine (HD.out _ (HA.out.below (bl_alloc (bl_alloc (Below.refl _ w) _) _)) (HB.out.below (bl_alloc (bl_alloc (Below.refl _ w) _) _))).mono ?_)
  rintro e w1 ⟨v1, rfl, ho, hb⟩
  obtain ⟨al, cl, rfl, hl1, _, _⟩ := OwnC.at ho
  rw [HK.out]
  have HR1 := Lib.hid (HR0.out.below hb); have HL1 := Lib.hid hl1
  have hwz : w.heap.size + 1 < w1.heap.size := HR1.out.lt
  clear ho hb hl1
  go_wp2_with fail
  go_loopw [8, 15] (fun sv iv wr => ∃ (v : Value) (k : Nat), k ≤ K ∧ iv = .int .i64 k ∧ sv = v ∧ OwnS wr w1.heap.size v ((pathsL L).take k) ∧ Below w1.heap.size w1 wr) (fun _ iv _ => K - (intOf iv).toNat)
  case atStart => exact ⟨_, 0, Nat.zero_le _, rfl, rfl, OwnS.nil _ _, Below.refl _ _⟩
  case round =>
    obtain ⟨v, k, hk, rfl, rfl, hown, hbel⟩ := hrel
    have hws := hbel.size
    have HO := Lib.hid hown; have HBk := Lib.hid hbel
    have HTL := Lib.hid (show ((pathsL L).take k).length = k by rw [List.length_take, paths_len, HK.out]; omega)
    clear hown hbel
    by_cases hlt : k < K
    · obtain ⟨lb, lo, rfl, _, p1, p2, p3⟩ := HL1.out.below HBk.out k (by rw [HK.out]; exact hlt)
      obtain ⟨p, x, y, hx⟩ : ∃ p x y, L[k]'(by rw [HK.out]; exact hlt) = (p, x, y) := ⟨_, _, _, rfl⟩
      rw [hx] at p1 p2 p3
      have HT := Lib.hid (paths_take (by rw [HK.out]; exact hlt) hx)
      clear hx
      go_wp2_with (at_builtin; refine wpList_append_lies _ rfl (.tmp 19) (.tmp 22) 24 rfl w1.heap.size 9 i0 (.string ⟨#[]⟩) 1 16 Tryz.underlying24 hi hz0 hz1 hz2 rfl (by decide) _ k (strsV ((pathsL L).take k)) rfl (HO.out.nb HTL.out (bl_alloc (bl_alloc (Below.refl _ wr) _) _)) _ 1 1 [.string p] rfl rfl (cells_one' _ _ _ (by simp)) (by intro u hu; rw [List.mem_singleton.1 hu]; rfl) (by decide) (by unfold maxLen; omega) (by omega) (by simp; omega) _ rfl ?_; intro gg cp w5 hown hg hat hlt5; have HO5 := Lib.hid (OwnS.push hown HTL.out); have HB5 := Lib.hid (gb_over HBk.out (bl_alloc (bl_alloc (Below.refl _ wr) _) _) hg (fun i hi => (HO.out.lt i hi).1)); clear hown hg hat hlt5)
      go_roundw
      case rel => exact ⟨_, k + 1, by omega, by go_num, rfl, by rw [HT.out]; exact HO5.out, HB5.out⟩
      case measure => simp [intOf]; omega
    · obtain rfl : k = K := by omega
      have ht : (pathsL L).take k = pathsL L := List.take_of_length_le (by rw [paths_len, HK.out]; omega)
      obtain ⟨sa, sc, hv, hsa⟩ := OwnS.sl HO.out (fun s hs => HSH.out s (List.mem_of_mem_take hs))
      rw [HTL.out] at hv
      subst hv
      have HS := Lib.hid (show StrsAt wr sa (pathsL L) by rw [← ht]; exact hsa)
      have HR2 := Lib.hid (HR1.out.below HBk.out)
      obtain ⟨c0, c1, c2, c3, r0, r1, q0, q1⟩ := HR2.out.cells
      clear ht hsa
      go_wp2_with fail
      (with_reducible refine (HMk.out wr sa sc k (by rw [paths_len, HK.out]) HS.out).mono ?_)
      intro e w2 hmk
      unfold MkSaid at hmk
      rw [HF.out] at hmk
      obtain ⟨rfl, hb⟩ := hmk
      have HR3 := Lib.hid (HR2.out.below hb)
      clear c0 c1 c2 c3 r0 r1 q0 q1 hb
      obtain ⟨c0, c1, c2, c3, r0, r1, q0, q1⟩ := HR3.out.cells
      go_wp2
      obtain ⟨z0, z1, hbz⟩ := FilAt.done (k := st) (b := bb) HR3.out
      refine bodyPost_ret (v := .tuple #[.agg #[.int .i64 st, .string bb], .int .i64 er]) (by simp [results, Tryz.results100, go_sem, z0, z1]) rfl ?_
      exact mk_of HF.out hbz
end Go.Proofs.YtbhfbdcmamodcaaGreatDoor
namespace Go.Proofs.YtbhfbdcmamodcaaGreatDoor
open Go.RowKit TrMath
theorem enTake30 {w : World} {a : Option Addr} {l : Ents} (h : EnAt w a l) (n : Nat) : EnAt w a (l.take n) := fun i hi => by
  have hl : i < l.length := by rw [List.length_take] at hi; omega
  obtain ⟨b, off, h1, h0, h2, h3⟩ := h i hl
  exact ⟨b, off, h1, h0, by rw [List.getElem_take]; exact h2, by rw [List.getElem_take]; exact h3⟩
set_option maxHeartbeats 2000000 in
set_option maxRecDepth 100000 in
theorem lGood30 (l : Ents) (hW : Words (l.take 30)) (a : Option Addr) (c : Nat) (hcl : l.length ≤ c) (hcm : c ≤ maxLen) (hl : l.length ≤ maxLen) (w : World) (h : EnAt w a l) :
    Calls Tryz.prog 9 #[.slice a l.length c] w fun e w' => ∃ v, e = .returned v ∧ Own w' w.heap.size v (goodL (l.take 30)) ∧ Below w.heap.size w w' := by
  unfold maxLen at hl
  obtain ⟨i0, hi, hz0, hz1, hz2⟩ := info_parts infoEntry
  obtain ⟨n, hn⟩ : ∃ n, n = min l.length 30 := ⟨_, rfl⟩
  have hn1 : (l.take 30).length = n := by rw [List.length_take]; omega
  have hX := enTake30 h 30
  obtain ⟨X, hXX⟩ : ∃ X, l.take 30 = X := ⟨_, rfl⟩
  rw [hXX] at hn1 hX hW
  rw [hXX]
  have HM := Lib.hid (fun W a c hw => rMake (cutL X) (cutL_words hW) a c (by have := cutL_len X; omega) W hw)
  have hnl : n ≤ l.length := by omega
  have hn2 : n ≤ 30 := by omega
  have hnc : n ≤ c := by omega
  unfold maxLen at hcm
  have hmin : min (l.length : Int) 30 = (n : Int) := by omega
  have HA := Lib.hid hX; have HN := Lib.hid hn1
  clear h hn hn1 hW hX hXX
  go_enter Tryz.func9, Tryz.ntmps9
  go_wp2
  go_loopw [3, 14] (fun ov iv wr => ∃ (v : Value) (k : Nat), k ≤ n ∧ iv = .int .i64 k ∧ ov = v ∧ Own wr w.heap.size v ((cutL X).take k) ∧ Below w.heap.size w wr) (fun _ iv _ => n - (intOf iv).toNat)
  case atStart => exact ⟨_, 0, Nat.zero_le _, rfl, rfl, Own.nil _ _, Below.refl _ _⟩
  case round =>
    obtain ⟨v, k, hk, rfl, rfl, hown, hbel⟩ := hrel
    have HO := Lib.hid hown; have HB := Lib.hid hbel
    have hwz := hbel.size
    have htl : ((cutL X).take k).length ≤ k := by rw [List.length_take]; omega
    have hcl : (cutL X).length = n := by
      unfold cutL
      rw [List.length_map, List.length_take, HN.out]
      omega
    have HCL := Lib.hid hcl
    have HTL := Lib.hid (show ((cutL X).take k).length = k by rw [List.length_take, hcl]; exact Nat.min_eq_left hk)
    clear hcl
    clear hown hbel
    by_cases hlt : k < n
    · have hlt2 : k < (X.take 2000).length := by rw [List.length_take, HN.out]; omega
      have hlt3 : k < X.length := by rw [HN.out]; exact hlt
      obtain ⟨b1, o1, rfl, hb1, p1, p2⟩ := HA.out.below HB.out k hlt3
      obtain ⟨p, x, hx⟩ : ∃ p x, X[k] = (p, x) := ⟨_, _, rfl⟩
      have HC := Lib.hid (show (cutL X).take (k + 1) = (cutL X).take k ++ [(cutP p, x)] from cut_at hlt2 (by rw [List.getElem_take]; exact hx))
      rw [hx] at p1 p2
      clear hx
      obtain ⟨q, hq⟩ : ∃ q, q = cutP p := ⟨_, rfl⟩
      obtain ⟨m, hm⟩ : ∃ m, m = min p.size 255 := ⟨_, rfl⟩
      have hmz : min (p.size : Int) 255 = (m : Int) := by omega
      have hmp : m ≤ p.size := by omega
      have HQ := Lib.hid (show p.extract 0 m = q by rw [hq, hm]; rfl)
      have HQ2 := Lib.hid hq
      clear hq hm
      go_wp2
      have HX0 : (wr.alloc (.cells #[.string p, .int .u32 x] 86)).cell? ⟨wr.heap.size, 0, none⟩ = some (.string p) := by rw [World.cell?_alloc_mark]; rfl
      have HX1 : (wr.alloc (.cells #[.string p, .int .u32 x] 86)).cell? ⟨wr.heap.size, 1, none⟩ = some (.int .u32 x) := by rw [World.cell?_alloc_mark]; rfl
      have HOx := Lib.hid (HO.out.alloc (.cells #[.string p, .int .u32 x] 86))
      have HOk := Lib.hid (own_n HOx.out HTL.out)
      have HBx := Lib.hid (bl_alloc HB.out (.cells #[.string p, .int .u32 x] 86))
      have hxs : wr.heap.size < (wr.alloc (.cells #[.string p, .int .u32 x] 86)).heap.size := by simp
      generalize wr.alloc (.cells #[.string p, .int .u32 x] 86) = x4 at *
      go_region_law (refine step_append_lies _ rfl (.tmp 18) (.tmp 29) 34 rfl w.heap.size 86 i0 (.agg #[.string ⟨#[]⟩, .int .u32 0]) 2 24 Tryz.underlying34 hi hz0 hz1 hz2 rfl (by decide) _ k _ rfl (HOk.out.drew.alloc _) ⟨x4.heap.size, 0, none⟩ 1 1 [.string (p.extract 0 m), .int .u32 x] rfl rfl (cells_pair _ _ _ _) (one_pair _ _) (by decide) (by unfold maxLen; omega) (by omega) (by simp; omega) _ rfl ?_; intro gg cp w5 hown hg hat hlt5; have HO5 := Lib.hid hown; have HB5 := Lib.hid (gb_to_below (bl_alloc (bl_drew HBx.out) _) hg (by simp; omega) (fun i hi => (HOx.out.lt i hi).1)); clear hown hg hat hlt5)
      all_goals
        go_wp2
        go_roundw
        case rel => exact ⟨_, k + 1, by omega, by go_num, rfl, by rw [HC.out, ← HQ2.out, ← HQ.out]; exact Own.pushN HO5.out HTL.out, HB5.out⟩
        case measure => simp [intOf]; omega
    · obtain rfl : k = n := by omega
      have hT : (cutL X).take k = cutL X := List.take_of_length_le (by have := HCL.out; omega)
      obtain ⟨ta, tc, hv, hte, hsl⟩ := Own.sl HO.out
      rw [HTL.out] at hv
      subst hv
      have HTE := Lib.hid (show EnAt wr ta (cutL X) by rw [← hT]; exact hte)
      have HMM := Lib.hid (show Calls Tryz.prog 36 #[.slice ta k tc] wr (MakeSaid (cutL X) wr) by have := HM.out wr ta tc HTE.out; rw [HCL.out] at this; exact this)
      clear hte hsl hT
      go_wp2_with (go_at_call 36; (with_reducible refine (HMM.out).mono ?_); rintro e w2 ⟨v2, rfl, hown2, hb2⟩; have HO2 := Lib.hid hown2; have HB2 := Lib.hid hb2; clear hown2 hb2)
      go_ret
      exact ⟨_, rfl, by rw [← (mk_good X).1]; exact HO2.out.mono hwz, bl_trans HB.out HB2.out⟩
end Go.Proofs.YtbhfbdcmamodcaaGreatDoor
