/- The law TreePuts, walked. -/
import Derived.Test.YtdjpmgkcgpkkmaaTrQb
import Derived.Test.YtdjpmgkcgpkkmaaTrLr
import Derived.Test.YtdjpmgkcgpkkmaaTrSt
import Derived.Test.YtdjpmgkcgpkkmaaTrW7
import Derived.Deep.RegionHeld3
set_option linter.unusedVariables false
set_option linter.unusedSimpArgs false
namespace Go.Proofs.Ytdjpmgkcgpkkmaa
open Go.RowKit TrMath

theorem OwnB.first {w : World} {B g n c : Nat} {l : Ents} (h : OwnB w B g c (l ++ sp)) (hn : l.length = n) : EnAt w (some ⟨g, 0, none⟩) l := by
  subst hn
  have := (h.take l.length).at
  rwa [List.take_left] at this
theorem own_at {w : World} {B c : Nat} {a : Option Addr} {l : Ents} (h : Own w B (.slice a l.length c) l) : EnAt w a l := by
  obtain ⟨a', c', hv, he, _⟩ := Own.at h
  cases hv
  exact he
theorem en_past {w0 w x : World} {a : Option Addr} {l : Ents} {v : Value} {B : Nat} (h0 : EnAt w0 a l) (h : EnAt w a l) (hx : w.grownBy x v.ownBlock) (hv : ∀ k, v.ownBlock = some k → B ≤ k) (hB : w0.heap.size ≤ B) : EnAt x a l := fun i hi => by
  obtain ⟨b, off, h1, hlt, _, _⟩ := h0 i hi
  obtain ⟨b', off', h1', hlt', h2, h3⟩ := h i hi
  rw [h1] at h1'
  cases h1'
  have e := hx.block b hlt' (fun e => by have := hv b e.symm; omega)
  exact ⟨b, off, h1, Nat.lt_of_lt_of_le hlt' hx.size, by rw [World.cell?_of_block e]; exact h2, by rw [World.cell?_of_block e]; exact h3⟩
theorem put_look {T : Ents} (hT : TrMath.Good T) (p : ByteArray) (u : Int) : ∀ q, lookL (putR T p u) q = if q = p ∧ p.size ≤ 255 then u else lookL T q := fun q => by
  unfold putR
  by_cases h : 255 < p.size
  · rw [if_pos h, if_neg (by omega)]
  · rw [if_neg h, look_put p u T hT.asc q]
    by_cases e : q = p
    · rw [if_pos e, if_pos ⟨e, by omega⟩]
    · rw [if_neg e, if_neg (fun k => e k.1)]

set_option maxHeartbeats 4000000 in
set_option maxRecDepth 100000 in
theorem treePuts (l : Ents) (hW : Words l) (a : Option Addr) (c : Nat) (hcl : l.length ≤ c) (hcm : c ≤ maxLen) (p : ByteArray) (u : Int) (hu0 : 0 ≤ u) (hu1 : u < 4294967296) (w : World) (h : EnAt w a l) :
    Calls Try.prog 6 #[.slice a l.length c, .string p, .int .u32 u] w fun e w' => e = .returned (.bool true) ∧ Below w.heap.size w w' := by
  have hl : l.length ≤ maxLen := Nat.le_trans hcl hcm
  have HA := Lib.hid h
  have HSt := Lib.hid (fun W => lStands W)
  have HG := Lib.hid (fun W hw => lGood l hW a c hcl hcm hl W hw)
  have hgl := good_len l
  have hgg := good_good l
  obtain ⟨T, hT⟩ : ∃ T, goodL l = T := ⟨_, rfl⟩
  rw [hT] at HG hgl hgg
  obtain ⟨R, hR⟩ : ∃ R, putR T p u = R := ⟨_, rfl⟩
  have hRg : TrMath.Good R := by rw [← hR]; exact hgg.putR p u
  have hRl : R.length ≤ 2001 := by rw [← hR]; have := putR_len T p u; omega
  have hlk := put_look hgg p u
  rw [hR] at hlk
  obtain ⟨n, hn⟩ : ∃ n, T.length = n := ⟨_, rfl⟩
  have HN := Lib.hid hn
  have HC := Lib.hid (fun W a c hw => (show Calls Try.prog 11 #[.slice a n c] W fun e w' => ∃ g, e = .returned (.slice (some ⟨g, 0, none⟩) n (n + 3)) ∧ OwnB w' W.heap.size g (n + 3) (T ++ sp) ∧ Below W.heap.size W w' by have := lCopied T a c (by omega) W hw; rw [hn] at this; exact this))
  have HK := Lib.hid (fun W g a c B (hb : OwnB W B g (n + 3) (T ++ sp)) hw => (show Calls Try.prog 18 #[.slice (some ⟨g, 0, none⟩) n (n + 3), .slice a n c] W fun e w' => e = .returned (.bool true) ∧ ∃ n, w' = W.drewN n by have := lKept T g a c B (by omega) W (by rw [hn]; exact hb) hw; rw [hn] at this; exact this))
  have HRP := Lib.hid (fun W a c hs hw => (show Calls Try.prog 23 #[.slice a n c, .string p, .int .u32 u] W fun e w' => ∃ v', e = .returned v' ∧ Own w' W.heap.size v' R ∧ Below W.heap.size W w' by have := rPut T p u hu0 hu1 a c hs (by omega) W hw; rw [hn, hR] at this; exact this))
  have HTP := Lib.hid (fun W a c hw => (show Calls Try.prog 24 #[.slice a n c, .string p, .int .u32 u] W fun e w' => ∃ v', e = .returned v' ∧ Own w' W.heap.size v' R ∧ Below W.heap.size W w' by have := tPut T hgg.asc p u hu0 hu1 a c (by omega) W hw; unfold PutSaid at this; rw [hn, hR] at this; exact this))
  have HSm := Lib.hid (fun W a b c d ha hb => (show Calls Try.prog 14 #[.slice a R.length c, .slice b R.length d] W fun e w' => e = .returned (.bool true) ∧ ∃ n, w' = W.drewN n by have := rSame R R a b c d (by unfold maxLen; omega) W ha hb; rw [sameB_self] at this; exact this))
  have HLT := Lib.hid (fun W q a c hw => (show Calls Try.prog 25 #[.slice a n c, .string q] W fun e w' => e = .returned (.int .u32 (lookL T q)) ∧ Below W.heap.size W w' by have := tLook T hgg.asc q a c (by omega) W hw; rw [hn] at this; exact this))
  have HLr := Lib.hid (fun W q a c hw => (show Calls Try.prog 26 #[.slice a n c, .string q] W fun e w' => e = .returned (.int .u32 (lookL T q)) ∧ Below W.heap.size W w' by have := rLook T q a c (by omega) W hw; rw [hn] at this; exact this))
  have HLR := Lib.hid (fun W q a c hw => tLook R hRg.asc q a c (by omega) W hw)
  have HP := Lib.hid (fun W v B hv hB => lSpoilt R v B (by omega) W hv hB)
  have HLK := Lib.hid hlk
  have HGG := Lib.hid hgg
  have hnl : n ≤ 2000 := by omega
  clear h hW hgg hRg hT hn hlk hR hgl
  go_enter Try.func6, Try.ntmps6
  go_wp2_with fail
  (with_reducible refine (HSt.out w).mono ?_)
  rintro e w1 ⟨rfl, hb⟩
  have HB1 := Lib.hid hb
  clear hb
  go_wp2_with fail
  (with_reducible refine (HG.out _ (HA.out.below HB1.out)).mono ?_)
  rintro e w2 ⟨v2, rfl, ho2, hb⟩
  obtain ⟨a2, c2, rfl, he2, hs2⟩ := Own.sl ho2
  rw [HN.out]
  have HT2 := Lib.hid he2; have HB2 := Lib.hid (bl_trans HB1.out hb); have HS2 := Lib.hid hs2
  clear ho2 he2 hb hs2
  go_wp2_with fail
  (with_reducible refine (HC.out w2 a2 c2 HT2.out).mono ?_)
  rintro e w3 ⟨g, rfl, ho3, hb⟩
  have HO3 := Lib.hid ho3; have HB3 := Lib.hid (bl_trans HB2.out hb); have HT3 := Lib.hid (HT2.out.below hb)
  have hg3 := ho3.lt
  have h23 := hb.size
  clear ho3 hb
  go_wp2_with fail
  (with_reducible refine (HRP.out w3 a2 c2 HS2.out HT3.out).mono ?_)
  rintro e w4 ⟨v4, rfl, ho4, hb⟩
  have h34 := hb.size
  have h24 : w2.heap.size ≤ w4.heap.size := Nat.le_trans h23 h34
  have HW4 := Lib.hid ho4; have HB4 := Lib.hid (bl_trans HB3.out hb); have HT4 := Lib.hid (HT3.out.below hb); have HO4 := Lib.hid (HO3.out.below hb)
  clear ho4 hb
  go_wp2_with fail
  (with_reducible refine (HTP.out w4 _ _ (HO4.out.first HN.out)).mono ?_)
  rintro e w5 ⟨v5, rfl, ho5, hb⟩
  have h45 := hb.size
  have h04 := HB4.out.size
  have HV5 := Lib.hid ho5; have HB5 := Lib.hid (bl_trans HB4.out hb); have HT5 := Lib.hid (HT4.out.below hb); have HO5 := Lib.hid (HO4.out.below hb); have HW5 := Lib.hid (HW4.out.below hb)
  have HAP := Lib.hid (fun i (h1 : v5.ownBlock = some i) (h2 : v4.ownBlock = some i) => (by have := (HV5.out.lt i h1).1; have := (HW4.out.lt i h2).2; omega : False))
  have HAG := Lib.hid (fun (h1 : v5.ownBlock = some g) => (by have := (HV5.out.lt g h1).1; omega : False))
  clear ho5 hb
  obtain ⟨a4, c4, rfl, _, _⟩ := Own.sl HW5.out
  obtain ⟨a5, c5, rfl, _, _⟩ := Own.sl HV5.out
  go_wp2_with fail
  (with_reducible refine (HSm.out w5 _ _ _ _ (own_at HV5.out) (own_at HW5.out)).mono ?_)
  rintro e w6 ⟨rfl, nd, rfl⟩
  have HB6 := Lib.hid (bl_drewN HB5.out nd)
  have HT6 := Lib.hid (show EnAt (w5.drewN nd) a2 T from HT5.out)
  have HO6 := Lib.hid (show OwnB (w5.drewN nd) w2.heap.size g (n + 3) (T ++ sp) from HO5.out)
  have HV6 := Lib.hid (show Own (w5.drewN nd) w4.heap.size (.slice a5 R.length c5) R from HV5.out)
  have HW6 := Lib.hid (show Own (w5.drewN nd) w3.heap.size (.slice a4 R.length c4) R from HW5.out)
  have h46 : w4.heap.size ≤ (w5.drewN nd).heap.size := h45
  generalize w5.drewN nd = w6 at *
  go_wp2_with fail
  (with_reducible refine (HLT.out w6 p _ _ (HO6.out.first HN.out)).mono ?_)
  rintro e w7 ⟨rfl, hb⟩
  have h47 := Nat.le_trans h46 hb.size
  have HB7 := Lib.hid (bl_trans HB6.out hb); have HT7 := Lib.hid (HT6.out.below hb); have HO7 := Lib.hid (HO6.out.below hb); have HV7 := Lib.hid (HV6.out.below hb); have HW7 := Lib.hid (HW6.out.below hb)
  clear hb
  go_wp2_with fail
  (with_reducible refine (HLr.out w7 p _ _ HT7.out).mono ?_)
  rintro e w8 ⟨rfl, hb⟩
  have h48 := Nat.le_trans h47 hb.size
  have HB8 := Lib.hid (bl_trans HB7.out hb); have HT8 := Lib.hid (HT7.out.below hb); have HO8 := Lib.hid (HO7.out.below hb); have HV8 := Lib.hid (HV7.out.below hb); have HW8 := Lib.hid (HW7.out.below hb)
  clear hb
  by_cases hshort : p.size ≤ 255
  case' pos =>
    have hsz : decide ((p.size : Int) ≤ 255) = true := by simp; omega
    have hpu : lookL R p = u := by rw [HLK.out p, if_pos ⟨rfl, hshort⟩]
    go_wp2_with fail
    (with_reducible refine (HLR.out w8 p _ _ (own_at HV8.out)).mono ?_)
    rintro e w9 ⟨rfl, hb⟩
    have h49 := Nat.le_trans h48 hb.size
    have HB9 := Lib.hid (bl_trans HB8.out hb); have HT9 := Lib.hid (HT8.out.below hb); have HO9 := Lib.hid (HO8.out.below hb); have HV9 := Lib.hid (HV8.out.below hb); have HW9 := Lib.hid (HW8.out.below hb)
    clear hb
    rw [hpu]
    clear hpu
    go_wp2
    clear hsz hshort
  case' neg =>
    have hsz : decide ((p.size : Int) ≤ 255) = false := by simp; omega
    have HB9 := HB8; have HT9 := HT8; have HO9 := HO8; have HV9 := HV8; have HW9 := HW8
    clear HB8 HT8 HO8 HV8 HW8
    rename World => w9
    have h49 := h48
    go_wp2
    clear hsz hshort
  all_goals
    clear HB1 HB2 HB3 HB4 HB5 HB6 HB7 HT3 HT4 HT5 HT6 HT7 HO3 HO4 HO5 HO6 HO7 HV5 HV6 HV7 HW4 HW5 HW6 HW7 HG HC HRP HSt
    go_loopw [52] (fun i wr => ∃ k : Nat, k ≤ n ∧ i = .int .i64 k ∧ Below w9.heap.size w9 wr) (fun i _ => n - (intOf i).toNat)
    case atStart => exact ⟨0, Nat.zero_le _, rfl, Below.refl _ _⟩
    case round =>
      obtain ⟨k, hk, rfl, hbb⟩ := hrel
      have HBk := Lib.hid hbb
      clear hbb
      by_cases hlt : k < n
      · have hltT : k < T.length := by have := HN.out; omega
        obtain ⟨b1, o1, rfl, _, p1, p2⟩ := HT9.out.below HBk.out k hltT
        obtain ⟨q, x, hx⟩ : ∃ q v, T[k] = (q, v) := ⟨_, _, rfl⟩
        rw [hx] at p1 p2
        have HLx := Lib.hid (show lookL T q = x by have := lookL_at T HGG.out.asc k hltT; rw [hx] at this; exact this)
        clear hx
        go_wp2
        have c1 : (wr.alloc (.cells #[.string q, .int .u32 x] 39)).cell? ⟨wr.heap.size, 0, none⟩ = some (.string q) := by rw [World.cell?_alloc_mark]; rfl
        have c2' : (wr.alloc (.cells #[.string q, .int .u32 x] 39)).cell? ⟨wr.heap.size, 1, none⟩ = some (.int .u32 x) := by rw [World.cell?_alloc_mark]; rfl
        have hb0 : Below w9.heap.size w9 (wr.alloc (.cells #[.string q, .int .u32 x] 39)) := bl_alloc HBk.out _
        clear p1 p2
        generalize wr.alloc (.cells #[.string q, .int .u32 x] 39) = W0 at *
        generalize wr.heap.size = xb at *
        have HB0 := Lib.hid hb0
        have HO0 := Lib.hid (HO9.out.below hb0); have HV0 := Lib.hid (HV9.out.below hb0)
        clear hb0 HBk
        have HQc := Lib.hid (fun W (hW : Below W0.heap.size W0 W) => (show Calls Try.prog 25 #[.slice (some ⟨g, 0, none⟩) n (n + 3), .string q] W fun e w' => e = .returned (.int .u32 x) ∧ Below W.heap.size W w' by
          have := HLT.out W q _ (n + 3) ((HO0.out.below hW).first HN.out); rw [HLx.out] at this; exact this))
        by_cases hqp : q = p
        · subst hqp
          have HC1 := Lib.hid (fun z : Beyond W0 => Go.Proofs.Ytdjpmgkcgpkkmaa.Calls.beyond z.b (HQc.out z.x z.b))
          have C1 : ∀ z : Beyond W0, z.x.cell? ⟨xb, 0, none⟩ = some (.string q) := fun z => bl_cell z.b c1
          have C2 : ∀ z : Beyond W0, z.x.cell? ⟨xb, 1, none⟩ = some (.int .u32 x) := fun z => bl_cell z.b c2'
          refine wp_region_beyond (by kernel_rfl) (by kernel_rfl) ?_
          repeat (quiet_step ((go_at_call 25; exact HC1.out _)))
          refine wpQuiet_nil ?_
          intro _ hw'
          obtain ⟨pq, hw''⟩ := hw'
          subst hw''
          have HBq := Lib.hid pq.b
          generalize pq.x = W1 at *
          go_wp2
          go_roundw
          case rel => exact ⟨k + 1, by omega, by go_num, bl_trans HB0.out HBq.out⟩
          case measure => simp [intOf]; omega
        · have heq : (q.toList == p.toList) = false := by
            rw [beq_eq_false_iff_ne]
            intro e
            rw [ByteArray.toList_eq, ByteArray.toList_eq] at e
            exact hqp (kB_inj e)
          have HQg := Lib.hid (fun W (hW : Below W0.heap.size W0 W) => (show Calls Try.prog 25 #[.slice a5 R.length c5, .string q] W fun e w' => e = .returned (.int .u32 x) ∧ Below W.heap.size W w' by
            have := HLR.out W q _ c5 (own_at (HV0.out.below hW)); rw [HLK.out q, if_neg (fun k => hqp k.1), HLx.out] at this; exact this))
          clear hqp
          go_region_held3 (fun w' => w'.cell? ⟨xb, 0, none⟩ = some (.string q) ∧ w'.cell? ⟨xb, 1, none⟩ = some (.int .u32 x))
            (first | exact H11.out | exact H10.out | exact ⟨c1, c2'⟩)
            (first
              | (go_at_call 25; (with_reducible refine (HQg.out _ (bl_drew (Below.refl _ W0))).mono ?_); rintro e w10 ⟨rfl, hb⟩; have hb1 := (bl_drew (Below.refl _ W0)).trans hb; have HB10 := Lib.hid hb1; have H10 := Lib.hid (show w10.cell? ⟨xb, 0, none⟩ = some (.string q) ∧ w10.cell? ⟨xb, 1, none⟩ = some (.int .u32 x) from ⟨bl_cell hb1 c1, bl_cell hb1 c2'⟩); clear hb hb1)
              | (go_at_call 25; (with_reducible refine (HQc.out _ HB10.out).mono ?_); rintro e w11 ⟨rfl, hb⟩; have hb1 := bl_trans HB10.out hb; have HB11 := Lib.hid hb1; have H11 := Lib.hid (show w11.cell? ⟨xb, 0, none⟩ = some (.string q) ∧ w11.cell? ⟨xb, 1, none⟩ = some (.int .u32 x) from ⟨bl_cell hb1 c1, bl_cell hb1 c2'⟩); clear hb hb1))
          all_goals
            go_wp2
            go_roundw
            case rel => exact ⟨k + 1, by omega, by go_num, bl_trans HB0.out HB11.out⟩
            case measure => simp [intOf]; omega
      · have HBe := Lib.hid (bl_trans HB9.out HBk.out)
        have HTe := Lib.hid (HT9.out.below HBk.out)
        have HOe := Lib.hid (HO9.out.below HBk.out); have HVe := Lib.hid (HV9.out.below HBk.out); have HWe := Lib.hid (HW9.out.below HBk.out)
        have hwr9 := HBk.out.size
        clear HB9 HT9 HO9 HV9 HW9 HBk
        have h4r := Nat.le_trans h49 hwr9
        go_wp2_with fail
        (with_reducible refine (HP.out wr _ w4.heap.size HVe.out h4r).mono ?_)
        rintro e w10 ⟨rfl, hg⟩
        have HB10 := Lib.hid (gb_to_below HBe.out hg HBe.out.size (fun i hi => Nat.le_trans h04 (HVe.out.lt i hi).1))
        have HT10 := Lib.hid (en_past HT2.out HTe.out hg (fun k hk => (HVe.out.lt k hk).1) h24)
        have HO10 := Lib.hid (HOe.out.keep (hg.block g HOe.out.lt (fun e => HAG.out e.symm)))
        have HW10 := Lib.hid (gb_own HWe.out hg (by
          cases h2 : (Value.slice a4 R.length c4).ownBlock with
          | none => exact .inl rfl
          | some i => exact .inr (fun h1 => HAP.out i h1.symm h2)))
        clear hg HBe HTe HOe HVe HWe
        go_wp2_with fail
        (with_reducible refine (HK.out w10 g a2 c2 _ HO10.out HT10.out).mono ?_)
        rintro e w11 ⟨rfl, nd2, rfl⟩
        have HB11 := Lib.hid (bl_drewN HB10.out nd2)
        have HO11 := Lib.hid (show OwnB (w10.drewN nd2) w2.heap.size g (n + 3) (T ++ sp) from HO10.out)
        have HW11 := Lib.hid (show Own (w10.drewN nd2) w3.heap.size (.slice a4 R.length c4) R from HW10.out)
        generalize w10.drewN nd2 = w11 at *
        go_wp2_with fail
        (with_reducible refine (HTP.out w11 _ _ (HO11.out.first HN.out)).mono ?_)
        rintro e w12 ⟨v12, rfl, ho12, hb⟩
        obtain ⟨a12, c12, rfl, he12, _⟩ := Own.sl ho12
        have HE12 := Lib.hid he12; have HB12 := Lib.hid (bl_trans HB11.out hb); have HW12 := Lib.hid (HW11.out.below hb)
        clear ho12 he12 hb
        go_wp2_with fail
        (with_reducible refine (HSm.out w12 a12 a4 c12 c4 HE12.out (own_at HW12.out)).mono ?_)
        rintro e w13 ⟨rfl, nd3, rfl⟩
        go_wp2
        go_ret
        exact ⟨rfl, bl_drewN HB12.out _⟩
end Go.Proofs.Ytdjpmgkcgpkkmaa
