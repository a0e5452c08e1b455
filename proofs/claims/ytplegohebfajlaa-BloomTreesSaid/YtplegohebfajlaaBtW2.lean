/- The law BloomTrees, walked. -/
import Derived.Test.YtplegohebfajlaaBtW3
import Derived.Test.YtplegohebfajlaaTrLr
import Derived.Test.YtplegohebfajlaaTrQb
import Derived.BigQuiet
set_option linter.unusedVariables false
set_option linter.unusedSimpArgs false
namespace Go.Proofs.Ytplegohebfajlaa
open Go.RowKit TrMath

set_option maxHeartbeats 8000000 in
set_option maxRecDepth 100000 in
theorem bloomTrees (H P M : Int) (S : Nat) (hS : S < 4294967296) (x : Ents) (hWx : Words x) (a : Option Addr) (c : Nat) (hcl : x.length ≤ c) (hcm : c ≤ maxLen) (y : Ents) (hWy : Words y) (b : Option Addr) (d : Nat) (hdl : y.length ≤ d) (hdm : d ≤ maxLen) (w : World) (h : EnAt w a x) (k : EnAt w b y) :
    Calls Try.prog 7 #[.agg #[.int .i64 H, .int .i64 P, .int .i64 M, .int .u32 S], .slice a x.length c, .slice b y.length d] w fun e w' => e = .returned (.bool true) ∧ Below w.heap.size w w' := by
  have HX := Lib.hid h; have HY := Lib.hid k
  have HFi := Lib.hid (fun W => blFilters W)
  have HGx := Lib.hid (fun W hw => lGood7 x (fun e he => hWx e (List.mem_of_mem_take he)) a c hcl hcm (Nat.le_trans hcl hcm) W hw)
  have HGy := Lib.hid (fun W hw => lGood7 y (fun e he => hWy e (List.mem_of_mem_take he)) b d hdl hdm (Nat.le_trans hdl hdm) W hw)
  have hT2 := good_len (x.take 700); have hU2 := good_len (y.take 700)
  have hTg := good_good (x.take 700); have hUg := good_good (y.take 700)
  obtain ⟨T, hT⟩ : ∃ T, goodL (x.take 700) = T := ⟨_, rfl⟩
  obtain ⟨U, hU⟩ : ∃ U, goodL (y.take 700) = U := ⟨_, rfl⟩
  rw [hT] at HGx hT2 hTg
  rw [hU] at HGy hU2 hUg
  obtain ⟨n, hn⟩ : ∃ n, T.length = n := ⟨_, rfl⟩
  obtain ⟨m, hm⟩ : ∃ m, U.length = m := ⟨_, rfl⟩
  have HN := Lib.hid hn; have HM := Lib.hid hm
  obtain ⟨er, st, bb, hR⟩ : ∃ er st bb, makeR H P M S (pathsL (diffL T U)) = (er, (st, bb)) := ⟨_, _, _, rfl⟩
  have hR2 : makeR H P M S (pathsL (diffL U T)) = (er, (st, bb)) := by rw [make_swap hTg hUg]; exact hR
  have hbs : bb.size ≤ 1000000 := by have := make_size (H := H) (P := P) (M := M) (S := S) (l := pathsL (diffL T U)); rw [hR] at this; simp at this; omega
  have HO1 := Lib.hid (fun W a b c d (hc : n ≤ c) (hd : m ≤ d) (hcm : c ≤ maxLen) (hdm : d ≤ maxLen) hw hk => (show Calls Try.prog 20 #[.agg #[.int .i64 H, .int .i64 P, .int .i64 M, .int .u32 S], .slice a n c, .slice b m d] W fun e w' => e = .returned (.tuple #[.agg #[.int .i64 st, .string bb], .int .i64 er]) ∧ Below W.heap.size W w' by have := bOf H P M S hS T U hTg hUg a b c d (by omega) (by omega) hcm hdm (by omega) W hw hk; unfold MkSaid at this; rw [hn, hm, hR] at this; exact this))
  have HO2 := Lib.hid (fun W a b c d (hc : n ≤ c) (hd : m ≤ d) (hcm : c ≤ maxLen) (hdm : d ≤ maxLen) hw hk => (show Calls Try.prog 20 #[.agg #[.int .i64 H, .int .i64 P, .int .i64 M, .int .u32 S], .slice b m d, .slice a n c] W fun e w' => e = .returned (.tuple #[.agg #[.int .i64 st, .string bb], .int .i64 er]) ∧ Below W.heap.size W w' by have := bOf H P M S hS U T hUg hTg b a d c (by omega) (by omega) hdm hcm (by omega) W hk hw; unfold MkSaid at this; rw [hn, hm, hR2] at this; exact this))
  have HO3 := Lib.hid (fun W a b c d (hc : n ≤ c) (hd : m ≤ d) (hcm : c ≤ maxLen) (hdm : d ≤ maxLen) hw hk => (show Calls Try.prog 21 #[.agg #[.int .i64 H, .int .i64 P, .int .i64 M, .int .u32 S], .slice a n c, .slice b m d] W fun e w' => e = .returned (.tuple #[.agg #[.int .i64 st, .string bb], .int .i64 er]) ∧ Below W.heap.size W w' by have := xOf H P M S hS T U hTg hUg a b c d (by omega) (by omega) hcm hdm (by omega) W hw hk; unfold MkSaid at this; rw [hn, hm, hR] at this; exact this))
  have HLT := Lib.hid (fun W p a c hw => (show Calls Try.prog 22 #[.slice a n c, .string p] W fun e w' => e = .returned (.int .u32 (lookL T p)) ∧ Below W.heap.size W w' by have := rLook T p a c (by omega) W hw; rw [hn] at this; exact this))
  have HLU := Lib.hid (fun W p a c hw => (show Calls Try.prog 22 #[.slice a m c, .string p] W fun e w' => e = .returned (.int .u32 (lookL U p)) ∧ Below W.heap.size W w' by have := rLook U p a c (by omega) W hw; rw [hm] at this; exact this))
  have HMY := Lib.hid (fun W p (hp : p.size ≤ maxLen) (hd : lookL T p ≠ lookL U p) => (show Calls Try.prog 18 #[.agg #[.int .i64 H, .int .i64 P, .int .i64 M, .int .u32 S], .agg #[.int .i64 st, .string bb], .string p] W fun e w' => e = .returned (.bool true) ∧ Below W.heap.size W w' by have := blMay H P M S hS (st : Nat) bb p hbs hp W; rw [tell_may hTg hUg hR hd] at this; exact this))
  have HSH := Lib.hid (show (∀ e ∈ T, e.1.size ≤ 255) ∧ ∀ e ∈ U, e.1.size ≤ 255 from ⟨hTg.short, hUg.short⟩)
  obtain ⟨W0, hW0⟩ : ∃ W0, w.alloc (.cells #[.int .i64 H, .int .i64 P, .int .i64 M, .int .u32 S] 27) = W0 := ⟨_, rfl⟩
  have HW0 := Lib.hid hW0
  have hs0 : SetAt W0 w.heap.size H P M S := by
    subst hW0
    exact ⟨by rw [World.cell?_alloc_new]; rfl, by rw [World.cell?_alloc_mark]; rfl, by rw [World.cell?_alloc_mark]; rfl, by rw [World.cell?_alloc_mark]; rfl⟩
  have HS0 := Lib.hid hs0
  have HB0 := Lib.hid (show Below w.heap.size w W0 by subst hW0; exact bl_alloc (Below.refl _ w) _)
  clear h k hWx hWy hTg hUg hT hU hn hm hR hR2 hS hW0 hs0
  go_enter Try.func7, Try.ntmps7
  go_wp2_with fail
  rw [HW0.out]
  clear HW0
  (with_reducible refine (HFi.out W0).mono ?_)
  rintro e w1 ⟨rfl, hb⟩
  have HB1 := Lib.hid (bl_trans HB0.out hb)
  have HS1 := Lib.hid (HS0.out.below hb)
  clear hb
  go_wp2_with fail
  (with_reducible refine (HGx.out w1 (HX.out.below HB1.out)).mono ?_)
  rintro e w2 ⟨v2, rfl, ho2, hb⟩
  obtain ⟨a2, c2, rfl, he2, hs2⟩ := Own.sl ho2
  rw [HN.out]
  have hc21 : n ≤ c2 := by rw [← HN.out]; exact hs2.1
  have hc22 := hs2.2
  have HT2 := Lib.hid he2; have HB2 := Lib.hid (bl_trans HB1.out hb); have HS2 := Lib.hid (HS1.out.below hb)
  clear ho2 he2 hb hs2
  go_wp2_with fail
  (with_reducible refine (HGy.out w2 (HY.out.below HB2.out)).mono ?_)
  rintro e w3 ⟨v3, rfl, ho3, hb⟩
  obtain ⟨a3, c3, rfl, he3, hs3⟩ := Own.sl ho3
  rw [HM.out]
  have hc31 : m ≤ c3 := by rw [← HM.out]; exact hs3.1
  have hc32 := hs3.2
  have HU3 := Lib.hid he3; have HB3w := Lib.hid (bl_trans HB2.out hb); have HT3 := Lib.hid (HT2.out.below hb); have HS3 := Lib.hid (HS2.out.below hb)
  obtain ⟨s0, s1, s2, s3⟩ := HS3.out
  have HB3 := Lib.hid (Below.refl w3.heap.size w3)
  clear ho3 he3 hb hs3 HB1 HB2 HT2 HS1 HS2 HS0 HGx HGy HFi HX HY
  go_wp2_with fail
  (with_reducible refine (HO1.out w3 a2 a3 c2 c3 hc21 hc31 hc22 hc32 (HT3.out.below HB3.out) (HU3.out.below HB3.out)).mono ?_)
  rintro e v4 ⟨rfl, hb⟩
  have hbv := bl_trans HB3.out hb
  have hbw := bl_alloc hbv (.cells #[.int .i64 st, .string bb] 36)
  have hbi := bl_alloc hb (.cells #[.int .i64 st, .string bb] 36)
  have HBX4 := Lib.hid (show BoxF (v4.alloc (.cells #[.int .i64 st, .string bb] 36)) v4.heap.size st bb from ⟨by rw [World.cell?_alloc_new]; rfl, by rw [World.cell?_alloc_mark]; rfl⟩)
  clear s0 s1 s2 s3
  have hs := HS3.out.below hbw
  have hsv := HS3.out.below hbv
  have hq : w.heap.size < v4.heap.size := World.block_lt_of_cell? v4 _ hsv.1
  obtain ⟨t0, t1, t2, t3⟩ := hsv
  obtain ⟨s0, s1, s2, s3⟩ := hs
  go_wp2_with fail
  obtain ⟨w4, hw⟩ : ∃ W, v4.alloc (.cells #[.int .i64 st, .string bb] 36) = W := ⟨_, rfl⟩
  rw [hw] at HBX4 hbw s0 s1 s2 s3 hbi
  rw [hw]
  have HB4 := Lib.hid hbw
  have HI4 := Lib.hid hbi
  obtain ⟨q9, hqq⟩ : ∃ q, v4.heap.size = q := ⟨_, rfl⟩
  rw [hqq] at HBX4 hq
  rw [hqq]
  clear hbv hb t0 t1 t2 t3 s0 s1 s2 s3 hbw hw hqq hq hbi
  (with_reducible refine (HO3.out w4 a2 a3 c2 c3 hc21 hc31 hc22 hc32 (HT3.out.below HB4.out) (HU3.out.below HB4.out)).mono ?_)
  rintro e v5 ⟨rfl, hb⟩
  have hbv := bl_trans HB4.out hb
  have hbw := bl_alloc hbv (.cells #[.int .i64 st, .string bb] 36)
  have hbi := bl_alloc hb (.cells #[.int .i64 st, .string bb] 36)
  have HBX5 := Lib.hid (show BoxF (v5.alloc (.cells #[.int .i64 st, .string bb] 36)) v5.heap.size st bb from ⟨by rw [World.cell?_alloc_new]; rfl, by rw [World.cell?_alloc_mark]; rfl⟩)
  have hs := HS3.out.below hbw
  have hsv := HS3.out.below hbv
  have hq : w.heap.size < v5.heap.size := World.block_lt_of_cell? v5 _ hsv.1
  obtain ⟨t0, t1, t2, t3⟩ := hsv
  obtain ⟨s0, s1, s2, s3⟩ := hs
  go_wp2_with fail
  obtain ⟨w5, hw⟩ : ∃ W, v5.alloc (.cells #[.int .i64 st, .string bb] 36) = W := ⟨_, rfl⟩
  rw [hw] at HBX5 hbw s0 s1 s2 s3 hbi
  rw [hw]
  have HB5 := Lib.hid hbw
  have HI5 := Lib.hid hbi
  obtain ⟨q11, hqq⟩ : ∃ q, v5.heap.size = q := ⟨_, rfl⟩
  rw [hqq] at HBX5 hq
  rw [hqq]
  clear hbv hb t0 t1 t2 t3 s0 s1 s2 s3 hbw hw hqq hq hbi
  (with_reducible refine (HO2.out w5 a2 a3 c2 c3 hc21 hc31 hc22 hc32 (HT3.out.below HB5.out) (HU3.out.below HB5.out)).mono ?_)
  rintro e v6 ⟨rfl, hb⟩
  have hbv := bl_trans HB5.out hb
  have hbw := bl_alloc hbv (.cells #[.int .i64 st, .string bb] 36)
  have hbi := bl_alloc hb (.cells #[.int .i64 st, .string bb] 36)
  have HBX6 := Lib.hid (show BoxF (v6.alloc (.cells #[.int .i64 st, .string bb] 36)) v6.heap.size st bb from ⟨by rw [World.cell?_alloc_new]; rfl, by rw [World.cell?_alloc_mark]; rfl⟩)
  obtain ⟨t0, t1⟩ := (HBX4.out.below HI5.out).below hbi
  obtain ⟨t2, t3⟩ := HBX5.out.below hbi
  obtain ⟨t4, t5⟩ := HBX6.out
  obtain ⟨y0, y1⟩ := (HBX4.out.below HI5.out).below hb
  obtain ⟨y2, y3⟩ := HBX5.out.below hb
  have hq1 : q9 < v6.heap.size := World.block_lt_of_cell? v6 _ y0
  have hq2 : q11 < v6.heap.size := World.block_lt_of_cell? v6 _ y2
  go_wp2_with fail
  have hbL := bl_alloc hbw (.cells #[.slice a2 n c2, .slice a3 m c3] 42)
  have z0 : ((v6.alloc (.cells #[.int .i64 st, .string bb] 36)).alloc (.cells #[.slice a2 n c2, .slice a3 m c3] 42)).cell? ⟨v6.heap.size + 1, 0, none⟩ = some (.slice a2 n c2) := by
    have e : (v6.alloc (.cells #[.int .i64 st, .string bb] 36)).heap.size = v6.heap.size + 1 := by simp
    rw [← e, World.cell?_alloc_new]; rfl
  have z1 : ((v6.alloc (.cells #[.int .i64 st, .string bb] 36)).alloc (.cells #[.slice a2 n c2, .slice a3 m c3] 42)).cell? ⟨v6.heap.size + 1, 1, none⟩ = some (.slice a3 m c3) := by
    have e : (v6.alloc (.cells #[.int .i64 st, .string bb] 36)).heap.size = v6.heap.size + 1 := by simp
    rw [← e, World.cell?_alloc_mark]; rfl
  have hx9 := (((HBX4.out.below HI5.out).below hbi).below (bl_alloc (Below.refl _ _) (.cells #[.slice a2 n c2, .slice a3 m c3] 42)))
  obtain ⟨wL, hwL⟩ : ∃ W, (v6.alloc (.cells #[.int .i64 st, .string bb] 36)).alloc (.cells #[.slice a2 n c2, .slice a3 m c3] 42) = W := ⟨_, rfl⟩
  obtain ⟨qL, hqL⟩ : ∃ q, v6.heap.size + 1 = q := ⟨_, rfl⟩
  rw [hwL] at z0 z1 hbL hx9
  rw [hqL] at z0 z1
  rw [hwL, hqL]
  have HBL := Lib.hid hbL; have HX9 := Lib.hid hx9; have Z0 := Lib.hid z0; have Z1 := Lib.hid z1
  clear hbv hb hbw hbi t0 t1 t2 t3 t4 t5 y0 y1 y2 y3 hq1 hq2 hwL hqL hbL hx9 z0 z1 HO1 HO2 HO3 HBX4 HBX5 HBX6 HI4 HI5 HB4 HB5
  go_loopw [68] (fun iv wr => ∃ i : Nat, i ≤ 2 ∧ iv = .int .i64 i ∧ Below wL.heap.size wL wr) (fun iv _ => 2 - (intOf iv).toNat)
  case atStart => exact ⟨0, by omega, rfl, Below.refl _ _⟩
  case round =>
    obtain ⟨i, hi2, rfl, hbel⟩ := hrel
    have HBo := Lib.hid hbel
    clear hbel
    by_cases hlt : i < 2
    · obtain ⟨Z, az, nz, cz, hzc, hzl, hze, hzs, hz2⟩ : ∃ (Z : Ents) (az : Option Addr) (nz cz : Nat), wr.cell? ⟨qL, i, none⟩ = some (.slice az nz cz) ∧ Z.length = nz ∧ EnAt wL az Z ∧ (∀ e ∈ Z, e.1.size ≤ 255) ∧ nz ≤ 2000 := by
        by_cases h0 : i = 0
        · subst h0
          exact ⟨T, a2, n, c2, bl_cell HBo.out Z0.out, HN.out, HT3.out.below HBL.out, HSH.out.1, by have := HN.out; omega⟩
        · obtain rfl : i = 1 := by omega
          exact ⟨U, a3, m, c3, bl_cell HBo.out Z1.out, HM.out, HU3.out.below HBL.out, HSH.out.2, by have := HM.out; omega⟩
      have HZE := Lib.hid hze; have HZS := Lib.hid hzs; have HZL := Lib.hid hzl
      have hi3 : (i : Int) < 2 := by omega
      clear hze hzs hzl
      obtain ⟨wo, hwo⟩ : ∃ wo : World, wo = wr := ⟨_, rfl⟩
      go_wp2_with fail
      go_loopw [74] (fun jv wq => ∃ j : Nat, j ≤ nz ∧ jv = .int .i64 j ∧ Below wL.heap.size wL wq) (fun jv _ => nz - (intOf jv).toNat)
      case atStart => exact ⟨0, Nat.zero_le _, rfl, HBo.out⟩
      case round =>
        obtain ⟨j, hj, rfl, hbel⟩ := hrel
        have HBi := Lib.hid hbel
        clear hbel
        by_cases hltj : j < nz
        · obtain ⟨lb, lo, rfl, _, p1, p2⟩ := HZE.out.below HBi.out j (by rw [HZL.out]; exact hltj)
          obtain ⟨p, u, hx⟩ : ∃ p u, Z[j]'(by rw [HZL.out]; exact hltj) = (p, u) := ⟨_, _, rfl⟩
          have hps : p.size ≤ 255 := by have := HZS.out _ (List.getElem_mem (show j < Z.length by rw [HZL.out]; exact hltj)); rw [hx] at this; exact this
          rw [hx] at p1 p2
          clear hx
          have c1 : (wr.alloc (.cells #[.string p, .int .u32 u] 47)).cell? ⟨wr.heap.size, 0, none⟩ = some (.string p) := by rw [World.cell?_alloc_new]; rfl
          have hb0 : Below wL.heap.size wL (wr.alloc (.cells #[.string p, .int .u32 u] 47)) := bl_alloc HBi.out _
          go_wp2_with fail
          clear p1 p2
          generalize wr.alloc (.cells #[.string p, .int .u32 u] 47) = Wb at *
          generalize wr.heap.size = xb at *
          have HBb := Lib.hid hb0
          have hf1 := HX9.out.below hb0
          have hs1 := HS3.out.below (bl_trans HBL.out hb0)
          obtain ⟨f1, f2⟩ := hf1
          obtain ⟨s0, s1, s2, s3⟩ := hs1
          clear hb0 HBi
          have HQ1 := Lib.hid (fun z : Beyond Wb => Go.Proofs.Ytplegohebfajlaa.Calls.beyond z.b (HLT.out z.x p a2 c2 (HT3.out.below (bl_trans HBL.out (bl_trans HBb.out z.b)))))
          have HQ2 := Lib.hid (fun z : Beyond Wb => Go.Proofs.Ytplegohebfajlaa.Calls.beyond z.b (HLU.out z.x p a3 c3 (HU3.out.below (bl_trans HBL.out (bl_trans HBb.out z.b)))))
          have C1 : ∀ z : Beyond Wb, z.x.cell? ⟨xb, 0, none⟩ = some (.string p) := fun z => bl_cell z.b c1
          have C2 : ∀ z : Beyond Wb, z.x.cell? ⟨q9, 0, none⟩ = some (.int .i64 st) := fun z => bl_cell z.b f1
          have C3 : ∀ z : Beyond Wb, z.x.cell? ⟨q9, 1, none⟩ = some (.string bb) := fun z => bl_cell z.b f2
          have C4 : ∀ z : Beyond Wb, z.x.cell? ⟨w.heap.size, 0, none⟩ = some (.int .i64 H) := fun z => bl_cell z.b s0
          have C5 : ∀ z : Beyond Wb, z.x.cell? ⟨w.heap.size, 1, none⟩ = some (.int .i64 P) := fun z => bl_cell z.b s1
          have C6 : ∀ z : Beyond Wb, z.x.cell? ⟨w.heap.size, 2, none⟩ = some (.int .i64 M) := fun z => bl_cell z.b s2
          have C7 : ∀ z : Beyond Wb, z.x.cell? ⟨w.heap.size, 3, none⟩ = some (.int .u32 S) := fun z => bl_cell z.b s3
          clear c1 f1 f2 s0 s1 s2 s3
          by_cases hd : lookL T p = lookL U p
          · obtain ⟨r, hr⟩ : ∃ r, lookL U p = r := ⟨_, rfl⟩
            rw [hd, hr] at HQ1
            rw [hr] at HQ2
            have hrr : (r != r) = false := by simp
            clear hd hr
            refine wp_region_beyond (by kernel_rfl) (by kernel_rfl) ?_
            repeat (go_big_quiet_step ((go_at_call 22; first | (with_reducible exact HQ1.out _) | (with_reducible exact HQ2.out _))))
            refine wpQuiet_nil ?_
            intro _ hw'
            obtain ⟨pq, hw''⟩ := hw'
            subst hw''
            have HBq := Lib.hid pq.b
            generalize pq.x = Wc at *
            go_wp2
            go_roundw
            case rel => exact ⟨j + 1, by omega, by go_num, bl_trans HBb.out HBq.out⟩
            case measure => simp [intOf]; omega
          · have HQ3 := Lib.hid (fun z : Beyond Wb => Go.Proofs.Ytplegohebfajlaa.Calls.beyond z.b (HMY.out z.x p (by unfold maxLen; omega) hd))
            obtain ⟨r1, hr1⟩ : ∃ r, lookL T p = r := ⟨_, rfl⟩
            obtain ⟨r2, hr2⟩ : ∃ r, lookL U p = r := ⟨_, rfl⟩
            rw [hr1] at HQ1 hd
            rw [hr2] at HQ2 hd
            have hrr : (r1 != r2) = true := by simpa using hd
            have hre : (r1 == r2) = false := by simpa using hd
            clear hd hr1 hr2
            refine wp_region_beyond (by kernel_rfl) (by kernel_rfl) ?_
            repeat (go_big_quiet_step (first | (go_at_call 22; first | (with_reducible exact HQ1.out _) | (with_reducible exact HQ2.out _)) | (go_at_call 18; (with_reducible exact HQ3.out _))))
            refine wpQuiet_nil ?_
            intro _ hw'
            obtain ⟨pq, hw''⟩ := hw'
            subst hw''
            have HBq := Lib.hid pq.b
            generalize pq.x = Wc at *
            go_wp2
            go_roundw
            case rel => exact ⟨j + 1, by omega, by go_num, bl_trans HBb.out HBq.out⟩
            case measure => simp [intOf]; omega
        · go_wp2_with fail
          go_roundw
          case rel => exact ⟨i + 1, by omega, by go_num, HBi.out⟩
          case measure => simp [intOf]; omega
    · go_wp2
      go_ret
      exact ⟨rfl, bl_trans (bl_trans HB3w.out HBL.out) HBo.out⟩
end Go.Proofs.Ytplegohebfajlaa
