/- Layer 13: filters of two trees. -/
import Derived.Test.YtbhfbdcmamodcaaGreatDoorL20
import Derived.Test.YtbhfbdcmamodcaaGreatDoorL25
import Derived.Test.YtbhfbdcmamodcaaGreatDoorL31
import Derived.Deep.RegionLaw
set_option linter.unusedVariables false
set_option linter.unusedSimpArgs false
namespace Go.Proofs.YtbhfbdcmamodcaaGreatDoor
open Go.RowKit TrMath
set_option maxHeartbeats 4000000 in
set_option maxRecDepth 100000 in
theorem bOf (H P M : Int) (S : Nat) (hS : S < 4294967296) (A B : Ents) (hA : TrMath.Good A) (hB : TrMath.Good B) (a b : Option Addr) (c d : Nat) (hc : A.length ≤ c) (hd : B.length ≤ d) (hcm : c ≤ maxLen) (hdm : d ≤ maxLen) (hl : A.length + B.length ≤ 1000000) (w : World) (h : EnAt w a A) (k : EnAt w b B) :
    Calls Tryz.prog 100 #[.agg #[.int .i64 H, .int .i64 P, .int .i64 M, .int .u32 S], .slice a A.length c, .slice b B.length d] w (MkSaid (makeR H P M S (pathsL (diffL A B))) w) := by
  obtain ⟨i0, hi, hz0, hz1, hz2⟩ := info_parts infoStr
  have HD := Lib.hid (fun W hw hk => tDiff A B hA.nz hB.nz a b c d hc hd hcm hdm (by omega) W hw hk)
  have hsh := paths_short hA hB
  have hlen := diff_len A B
  obtain ⟨L, hL⟩ : ∃ L, diffL A B = L := ⟨_, rfl⟩
  unfold DiffSaid at HD
  rw [hL] at HD hsh hlen
  rw [hL]
  obtain ⟨K, hK⟩ : ∃ K, L.length = K := ⟨_, rfl⟩
  have HK := Lib.hid hK
  have hK2 : K ≤ 1000000 := by omega
  have HSH := Lib.hid hsh
  have HMk := Lib.hid (fun W x cc n (hn : n = (pathsL L).length) hs => show Calls Tryz.prog 162 #[.agg #[.int .i64 H, .int .i64 P, .int .i64 M, .int .u32 S], .slice x n cc] W (MkSaid (makeR H P M S (pathsL L)) W) from by subst hn; exact blMake H P M S hS x cc (pathsL L) (by rw [paths_len]; unfold maxLen; omega) W hs)
  obtain ⟨er, st, bb, hR⟩ : ∃ er st bb, makeR H P M S (pathsL L) = (er, (st, bb)) := ⟨_, _, _, rfl⟩
  have HF := Lib.hid hR
  have HR0 := Lib.hid (FilAt.start w H P M S)
  have HA := Lib.hid h; have HB := Lib.hid k
  clear h k hA hB hL hK hsh hlen hR hS hc hd hcm hdm
  go_enter Tryz.func100, Tryz.ntmps100
  go_wp2_with fail
  (with_reducible refine (HD.out _ (HA.out.below (bl_alloc (bl_alloc (Below.refl _ w) _) _)) (HB.out.below (bl_alloc (bl_alloc (Below.refl _ w) _) _))).mono ?_)
  rintro e w1 ⟨v1, rfl, ho, hb⟩
  obtain ⟨al, cl, rfl, hl1, _, _⟩ := OwnC.at ho
  rw [HK.out]
  have HR1 := Lib.hid (HR0.out.below hb); have HL1 := Lib.hid hl1
  have hwz : w.heap.size + 1 < w1.heap.size := HR1.out.lt
  clear ho hb hl1
  go_wp2_with fail
  go_loopw [8, 15] (fun sv iv wr => ∃ (v : Value) (k : Nat), k ≤ K ∧ iv = .int .i64 k ∧ sv = v ∧ OwnS wr w1.heap.size v ((pathsL L).take k) ∧ Below w1.heap.size w1 wr) (fun _ iv _ => K - (intOf iv).toNat)
  case atStart => exact ⟨_, 0, Nat.zero_le _, rfl, rfl, OwnS.nil _ _, Below.refl _ _⟩
  case round =>
    obtain ⟨v, k, hk, rfl, rfl, hown, hbel⟩ := hrel
    have hws := hbel.size
    have HO := Lib.hid hown; have HBk := Lib.hid hbel
    have HTL := Lib.hid (show ((pathsL L).take k).length = k by rw [List.length_take, paths_len, HK.out]; omega)
    clear hown hbel
    by_cases hlt : k < K
    · obtain ⟨lb, lo, rfl, _, p1, p2, p3⟩ := HL1.out.below HBk.out k (by rw [HK.out]; exact hlt)
      obtain ⟨p, x, y, hx⟩ : ∃ p x y, L[k]'(by rw [HK.out]; exact hlt) = (p, x, y) := ⟨_, _, _, rfl⟩
      rw [hx] at p1 p2 p3
      have HT := Lib.hid (paths_take (by rw [HK.out]; exact hlt) hx)
      clear hx
      go_wp2_with (at_builtin; refine wpList_append_lies _ rfl (.tmp 19) (.tmp 22) 24 rfl w1.heap.size 9 i0 (.string ⟨#[]⟩) 1 16 Tryz.underlying24 hi hz0 hz1 hz2 rfl (by decide) _ k (strsV ((pathsL L).take k)) rfl (HO.out.nb HTL.out (bl_alloc (bl_alloc (Below.refl _ wr) _) _)) _ 1 1 [.string p] rfl rfl (cells_one' _ _ _ (by simp)) (by intro u hu; rw [List.mem_singleton.1 hu]; rfl) (by decide) (by unfold maxLen; omega) (by omega) (by simp; omega) _ rfl ?_; intro gg cp w5 hown hg hat hlt5; have HO5 := Lib.hid (OwnS.push hown HTL.out); have HB5 := Lib.hid (gb_over HBk.out (bl_alloc (bl_alloc (Below.refl _ wr) _) _) hg (fun i hi => (HO.out.lt i hi).1)); clear hown hg hat hlt5)
      go_roundw
      case rel => exact ⟨_, k + 1, by omega, by go_num, rfl, by rw [HT.out]; exact HO5.out, HB5.out⟩
      case measure => simp [intOf]; omega
    · obtain rfl : k = K := by omega
      have ht : (pathsL L).take k = pathsL L := List.take_of_length_le (by rw [paths_len, HK.out]; omega)
      obtain ⟨sa, sc, hv, hsa⟩ := OwnS.sl HO.out (fun s hs => HSH.out s (List.mem_of_mem_take hs))
      rw [HTL.out] at hv
      subst hv
      have HS := Lib.hid (show StrsAt wr sa (pathsL L) by rw [← ht]; exact hsa)
      have HR2 := Lib.hid (HR1.out.below HBk.out)
      obtain ⟨c0, c1, c2, c3, r0, r1, q0, q1⟩ := HR2.out.cells
      clear ht hsa
      go_wp2_with fail
      (with_reducible refine (HMk.out wr sa sc k (by rw [paths_len, HK.out]) HS.out).mono ?_)
      intro e w2 hmk
      unfold MkSaid at hmk
      rw [HF.out] at hmk
      obtain ⟨rfl, hb⟩ := hmk
      have HR3 := Lib.hid (HR2.out.below hb)
      clear c0 c1 c2 c3 r0 r1 q0 q1 hb
      obtain ⟨c0, c1, c2, c3, r0, r1, q0, q1⟩ := HR3.out.cells
      go_wp2
      obtain ⟨z0, z1, hbz⟩ := FilAt.done (k := st) (b := bb) HR3.out
      refine bodyPost_ret (v := .tuple #[.agg #[.int .i64 st, .string bb], .int .i64 er]) (by simp [results, Tryz.results100, go_sem, z0, z1]) rfl ?_
      exact mk_of HF.out hbz
end Go.Proofs.YtbhfbdcmamodcaaGreatDoor
