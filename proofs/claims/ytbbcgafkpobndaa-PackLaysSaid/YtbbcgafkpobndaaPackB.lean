/- Walk of the law PackBack. -/
import Derived.Test.YtbbcgafkpobndaaPackL3
import Derived.Deep.RegionWith
set_option linter.unusedVariables false
set_option linter.unusedSimpArgs false
namespace Go.Proofs.Ytbbcgafkpobndaa
open Go.RowKit PackMath

theorem layB_len (k n : Nat) (o : ByteArray) (hn : n < 18446744073709551616) (ho : o.size < 18446744073709551616) : (layB k n o).length ≤ o.size + 20 := by
  have h1 := short_ten hn
  have h2 := short_ten ho
  unfold layB
  split <;> simp [be_length, textOf] <;> omega
theorem layAll_snoc (l : List OpD) (k : Nat) (h : k < l.length) : layAll (l.take (k + 1)) = layAll (l.take k) ++ layB l[k].k l[k].n l[k].s := by
  unfold layAll
  rw [List.take_succ_eq_append_getElem h, List.flatMap_append]
  simp only [List.flatMap_cons, List.flatMap_nil, List.append_nil]
theorem lay_at (B p : Nat) (w : World) (v : Value) (bs : List UInt8) (x y : Int) (k n : Nat) (hx : x = k) (hy : y = n) (o : ByteArray) (hk : k < 256) (hn : n < 18446744073709551616) (ho : o.size < 18446744073709551616) (h : IsWr B w p v bs) (hB : B ≤ w.heap.size) (hl : bs.length + 10 ≤ 70000000000000 ∧ o.size ≤ 140737488355328) :
    Calls Try.prog 11 #[.pointer (some ⟨p, 0, none⟩), .agg #[.int .u8 x, .int .u64 y, .string o]] w (LaySaid B p v bs (layB k n o) w) := by
  subst hx; subst hy
  exact lay_any B p w v bs k n o hk hn ho h hB hl

set_option maxHeartbeats 3200000 in
set_option maxRecDepth 100000 in
theorem packBack_any (ad : Option Addr) (cap : Nat) (l : List OpD) (w : World) (hl : l.length ≤ maxLen) (hz : ∀ d ∈ l, d.s.size ≤ 140737488355328) (h : OpsAt w ad l) :
    Calls Try.prog 8 #[.slice ad l.length cap] w fun e w' => e = .returned (.bool true) ∧ Below w.heap.size w w' := by
  unfold maxLen at hl
  have HO := Lib.hid h
  have HZ := Lib.hid hz
  clear h hz
  go_enter Try.func8, Try.ntmps8
  go_wp2_with (go_at_call 9; refine (lays_any w).mono ?_; rintro e w1 ⟨rfl, hb1⟩; have HB1 := Lib.hid hb1; clear hb1)
  go_wp2_with (go_at_call 10; refine (new_any w1).mono ?_; rintro e w2 ⟨rfl, hw2⟩; have H0 := Lib.hid (wr_new w1); rw [← hw2] at H0; have HB2 : Hid (Below w1.heap.size w1 w2) := Lib.hid (by rw [hw2]; exact bl_alloc (Below.refl _ _) _); clear hw2)
  have HB := Lib.hid (bl_trans HB1.out HB2.out)
  have HP := Lib.hid HB1.out.size
  have HQ := Lib.hid HB2.out.size
  generalize w1.heap.size = p at *
  go_loopw [4, 14] (fun z i wr => ∃ (k tot : Nat) (v : Value), k ≤ l.length ∧ z = .int .i64 tot ∧ i = .int .i64 k ∧ (layAll (l.take k)).length ≤ tot ∧ tot ≤ 1048576 ∧ IsWr p wr p v (layAll (l.take k)) ∧ Below p w2 wr) (fun _ i _ => l.length - (intOf i).toNat)
  case atStart => exact ⟨0, 0, _, Nat.zero_le _, rfl, rfl, Nat.le_refl _, Nat.zero_le _, H0.out, Below.refl _ _⟩
  case round =>
    obtain ⟨k, tot, v, hk, rfl, rfl, hlt, htot, ht, hbb⟩ := hrel
    have HW := Lib.hid ht; have HBB := Lib.hid hbb
    clear ht hbb
    by_cases hkl : k < l.length
    · obtain ⟨x1, x2, b0, off, rfl, x4, x5, x6, x7⟩ := HO.out.below (HB.out.trans (HBB.out.mono HP.out)) k hkl
      have hz := HZ.out l[k] (List.getElem_mem hkl)
      have HSN := Lib.hid (layAll_snoc l k hkl)
      generalize l[k] = o at x1 x2 x5 x6 x7 hz HSN
      have hln := layB_len o.k o.n o.s x2 (by omega)
      have hadd : IntKind.i64.wrap ((o.s.size : Int) + 20) = (o.s.size : Int) + 20 := IntWalk.i64_in _ (by omega)
      have hadd2 : IntKind.i64.wrap ((tot : Int) + ((o.s.size : Int) + 20)) = (tot : Int) + ((o.s.size : Int) + 20) := IntWalk.i64_in _ (by omega)
      by_cases hbig : 1048576 < tot + (o.s.size + 20)
      · have hd : decide ((1048576 : Int) < (tot : Int) + ((o.s.size : Int) + 20)) = true := by simp; omega
        go_wp2
        first | go_ret | go_ret2 | go_ret3
        exact ⟨rfl, HB.out.trans ((HBB.out.trans ((bl_alloc (Below.refl _ wr) _).mono (Nat.le_trans HQ.out HBB.out.size))).mono HP.out)⟩
      · have hd : decide ((1048576 : Int) < (tot : Int) + ((o.s.size : Int) + 20)) = false := by simp; omega
        have HBX := Lib.hid (bl_alloc (Below.refl _ wr) (.cells #[.int .u8 o.k, .int .u64 o.n, .string o.s] 31))
        have HPX := Lib.hid (Nat.le_trans (Nat.le_trans HQ.out HBB.out.size) HBX.out.size)
        go_wp2_with (go_at_call 11; refine (lay_at p p _ v _ _ _ o.k o.n rfl rfl o.s x1 x2 (by omega) (HW.out.below HBX.out) HPX.out (by omega)).mono ?_; rintro r wn ⟨S, v', rfl, _, hw, hm⟩; have HWn := Lib.hid hw; have HBn := Lib.hid (Moved.below hm (HW.out.below HBX.out) HPX.out); clear hw hm)
        go_roundw
        case rel => exact ⟨k + 1, tot + (o.s.size + 20), v', by omega, by go_num, by go_num, by rw [HSN.out, List.length_append]; omega, by omega, by rw [HSN.out]; exact HWn.out, HBB.out.trans ((HBX.out.mono (Nat.le_trans HQ.out HBB.out.size)).trans HBn.out)⟩
        case measure => simp [intOf]; omega
    · have hke : l.take k = l := List.take_of_length_le (by omega)
      rw [hke] at HW hlt
      have HD := Lib.hid (show ∀ d ∈ l, d.n < 18446744073709551616 ∧ d.s.size < 18446744073709551616 from fun d hd => by
        obtain ⟨i, hi, rfl⟩ := List.getElem_of_mem hd
        exact ⟨(HO.out i hi).2.1, by have := HZ.out _ (List.getElem_mem hi); omega⟩)
      have HZ2 := Lib.hid (show ∀ d ∈ l, d.s.size ≤ maxLen from fun d hd => by have := HZ.out d hd; unfold maxLen; omega)
      go_wp2_with (go_at_call 13; refine (bytes_ex _ _ wr v _ HW.out).mono ?_; rintro e w3 ⟨S, hS, hSz, rfl, rfl⟩; have HS := Lib.hid hS; have hS20 : S.size ≤ 1048576 := (by omega); clear hS)
      have HBW := Lib.hid (HB.out.trans (HBB.out.mono HP.out))
      have HQW := Lib.hid (Nat.le_trans HP.out (Nat.le_trans HQ.out HBB.out.size))
      have hS48 : S.size < 281474976710656 := by omega
      go_wp2_with (go_at_call 15; refine (rd_new wr S hS48).mono ?_; rintro e w4 ⟨rfl, hb4, hr4⟩; have HB4 := Lib.hid (HBW.out.trans (hb4.mono HQW.out)); have HR4 := Lib.hid hr4; clear hb4 hr4)
      have HSM := Lib.hid (show sameR S l 0 0 = (true, S.size, 0) from by rw [same_ok (s := S) l [] [] 0 HD.out (by rw [HS.out]; simp) rfl, hSz]; simp)
      have hen : endR S S.size 0 = 0 := by unfold endR; rw [if_neg (by omega)]
      have C1 := Lib.hid (fun W hb hr => by have := same_any w wr.heap.size S ad cap l 0 0 W hl HZ2.out HO.out hb HQW.out hr; rw [HSM.out] at this; exact this)
      have C2 := Lib.hid (fun W hr => by have := rEnd wr.heap.size S S.size 0 W hr; rw [hen] at this; exact this)
      have C3 := Lib.hid (fun W hr => by have := rLeft_q wr.heap.size S S.size 0 W hr; rw [Int.sub_self] at this; exact this)
      by_cases hS0 : S.size = 0
      · have hd0 : ((S.size : Int) == 0) = true := by rw [hS0]; rfl
        go_wp2_with (first
          | (go_at_call 28; (with_reducible refine (C1.out w4 HB4.out HR4.out).mono ?_); rintro r w5 ⟨rfl, hr, hb⟩; have HR5 := Lib.hid hr; have HB5 := Lib.hid hb; clear hr hb))
        go_wp2_with (go_at_call 20; (with_reducible refine (C2.out w5 HR5.out).mono ?_); rintro r w6 ⟨rfl, hk6, hr⟩; have HR6 := Lib.hid hr; have HB6 := Lib.hid (HB5.out.trans (hk6.below HQW.out HB5.out.size)); clear hr hk6)
        go_wp2_with (go_at_call 27; (with_reducible refine (C3.out w6 HR6.out).mono ?_); rintro r w7 ⟨rfl, n7, rfl⟩)
        go_wp2_with (go_at_call 17; refine (rAt wr.heap.size S S.size 0 _ (HR6.out.drewN n7)).mono ?_; rintro r w8 ⟨rfl, rfl⟩)
        first | go_ret | go_ret2 | go_ret3
        exact ⟨rfl, below_drewN HB6.out n7⟩
      · have hd0 : ((S.size : Int) == 0) = false := by simp; intro h; exact hS0 (by rw [h]; rfl)
        have hne : layAll l ≠ [] := fun h => hS0 (by rw [hSz, h]; rfl)
        have hsub : IntKind.i64.wrap ((S.size : Int) - 1) = ((S.size - 1 : Nat) : Int) := by rw [IntWalk.i64_in _ (by omega)]; omega
        have hT : (S.extract 0 ((layAll l).length - 1)).size < 281474976710656 := by rw [ByteArray.size_extract]; omega
        have HT := Lib.hid (show (S.extract 0 ((layAll l).length - 1)).data.toList = [] ++ (layAll l).dropLast from by
          rw [extract_list, HS.out, List.drop_zero, List.dropLast_eq_take]; rfl)
        have HCUT := Lib.hid (same_cut (s := S.extract 0 ((layAll l).length - 1)) l [] (layAll l).dropLast _ 0 HD.out HT.out rfl (List.dropLast_concat_getLast hne).symm)
        clear hne
        go_wp2_with (first
          | (go_at_call 28; (with_reducible refine (C1.out w4 HB4.out HR4.out).mono ?_); rintro r w5 ⟨rfl, hr, hb⟩; have HR5 := Lib.hid hr; have HB5 := Lib.hid hb; clear hr hb))
        go_wp2_with (go_at_call 20; (with_reducible refine (C2.out w5 HR5.out).mono ?_); rintro r w6 ⟨rfl, hk6, hr⟩; have HR6 := Lib.hid hr; have HB6 := Lib.hid (HB5.out.trans (hk6.below HQW.out HB5.out.size)); clear hr hk6)
        go_wp2_with (go_at_call 27; (with_reducible refine (C3.out w6 HR6.out).mono ?_); rintro r w7 ⟨rfl, n7, rfl⟩)
        go_wp2_with (go_at_call 17; refine (rAt wr.heap.size S S.size 0 _ (HR6.out.drewN n7)).mono ?_; rintro r w8 ⟨rfl, rfl⟩)
        have HB7 := Lib.hid (below_drewN HB6.out n7)
        clear HB6
        generalize S.extract 0 ((layAll l).length - 1) = T at *
        go_wp2_with (go_at_call 15; (with_reducible refine (rd_new _ T hT).mono ?_); rintro e w9 ⟨rfl, hb9, hr9⟩; have HQ9 := Lib.hid (show w.heap.size ≤ (w6.drewN n7).heap.size from HB7.out.size); have HB9 := Lib.hid (HB7.out.trans (hb9.mono HB7.out.size)); have HR9 := Lib.hid hr9; clear hb9 hr9)
        go_wp2_with (go_at_call 28; refine (same_any w _ T ad cap l 0 0 w9 hl HZ2.out HO.out HB9.out HQ9.out HR9.out).mono ?_; rintro r w10 ⟨rfl, _, hb⟩; rw [HCUT.out]; have HB10 := Lib.hid hb; clear hb)
        go_ret
        exact ⟨rfl, HB10.out⟩
end Go.Proofs.Ytbbcgafkpobndaa
