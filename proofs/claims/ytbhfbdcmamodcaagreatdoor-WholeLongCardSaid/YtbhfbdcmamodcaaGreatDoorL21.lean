/- Walks of layer 9: what is wrong with a commit, in the program and in the document's answer; Walks of layer 9: the bytes of a commit, in the program and in the document's answer. -/
import Derived.Test.YtbhfbdcmamodcaaGreatDoorL01
import Derived.Test.YtbhfbdcmamodcaaGreatDoorL19
import Derived.Test.YtbhfbdcmamodcaaGreatDoorL11
import Derived.BigQuiet
import Derived.BigRegion
import Derived.Deep.RegionWith
set_option linter.unusedVariables false
set_option linter.unusedSimpArgs false
namespace Go.Proofs.YtbhfbdcmamodcaaGreatDoor
open Go.RowKit PackMath
section
variable (w : World)
theorem cIn (z : Int) : Calls Tryz.prog 141 #[.int .i64 z] w fun e w' => e = .returned (.bool (inn z)) ∧ w = w' := by
  by_cases h0 : 0 ≤ z
  · by_cases h1 : z < 65536
    · have hi := Lib.hid (show inn z = true from decide_eq_true ⟨h0, h1⟩)
      go_enter Tryz.func141, Tryz.ntmps141
      go_wp2
      go_ret
      exact ⟨ret_bool hi.out.symm, rfl⟩
    · have hi := Lib.hid (show inn z = false from decide_eq_false fun h => h1 h.2)
      have hd : decide (z < 65536) = false := by simpa using h1
      clear h1
      go_enter Tryz.func141, Tryz.ntmps141
      go_wp2
      go_ret
      exact ⟨ret_bool hi.out.symm, rfl⟩
  · have hi := Lib.hid (show inn z = false from decide_eq_false fun h => h0 h.1)
    have h1' : z < 0 := by omega
    clear h0
    go_enter Tryz.func141, Tryz.ntmps141
    go_wp2
    go_ret
    exact ⟨ret_bool hi.out.symm, rfl⟩
def IdxSaid (z : Int) (zs : List Int) (w : World) (e : Ending) (w' : World) : Prop := ∃ j : Int, (0 ≤ j ↔ z ∈ zs) ∧ e = .returned (.int .i64 j) ∧ w = w'
theorem cIndex (z : Int) (zs : List Int) (a : Option Addr) (cap : Nat) (hl : zs.length ≤ maxLen) (h : IntsAt w .i64 a zs) :
    Calls Tryz.prog 196 #[.slice a zs.length cap, .int .i64 z] w (IdxSaid z zs w) := by
  unfold maxLen at hl
  have HI := Lib.hid h
  clear h
  go_enter Tryz.func196, Tryz.ntmps196
  go_wp2
  go_loop [8] (fun i => ∃ k : Nat, k ≤ zs.length ∧ i = .int .i64 k ∧ z ∉ zs.take k) (fun i => zs.length - (intOf i).toNat)
  case atStart => exact ⟨0, Nat.zero_le _, rfl, by simp⟩
  case round =>
    obtain ⟨k, hk, rfl, hn⟩ := hrel
    have HN := Lib.hid hn
    clear hn
    by_cases hlt : k < zs.length
    · obtain ⟨hwf, b, off, rfl, hcell⟩ := HI.out k hlt
      clear hwf
      have HT := Lib.hid (take_at zs k hlt)
      have HM := Lib.hid (show zs[k] ∈ zs from List.getElem_mem hlt)
      generalize zs[k] = x at hcell HT HM
      by_cases he : z = x
      · subst he
        go_wp2
        go_ret
        exact ⟨k, ⟨fun _ => HM.out, fun _ => by omega⟩, rfl, rfl⟩
      · have hd : (z == x) = false := by simpa using he
        have HE := Lib.hid he
        clear he
        go_wp2
        go_round
        case rel => exact ⟨k + 1, by omega, by go_num, by rw [HT.out]; simpa using ⟨HN.out, HE.out⟩⟩
        case measure => simp [intOf]; omega
    · have hz : Hid (z ∉ zs) := by have := HN.out; rw [List.take_of_length_le (by omega)] at this; exact this
      go_wp2
      go_ret
      exact ⟨-1, ⟨fun h => absurd h (by decide), fun h => absurd h hz.out⟩, rfl, rfl⟩
theorem cContains (z : Int) (zs : List Int) (a : Option Addr) (cap : Nat) (hl : zs.length ≤ maxLen) (h : IntsAt w .i64 a zs) :
    Calls Tryz.prog 142 #[.slice a zs.length cap, .int .i64 z] w fun e w' => e = .returned (.bool (memB z zs)) ∧ w = w' := by
  have HI := Lib.hid h
  clear h
  have HL := Lib.hid hl
  clear hl
  go_enter Tryz.func142, Tryz.ntmps142
  go_wp2_with (go_at_call 196; refine (cIndex w z zs a cap HL.out HI.out).mono ?_; rintro e w' ⟨j, hj, rfl, rfl⟩; have HJ := Lib.hid hj; clear hj)
  go_ret
  refine ⟨ret_bool ?_, rfl⟩
  unfold memB
  simp [HJ.out]
theorem cContains_at (z : Int) (zs : List Int) (a : Option Addr) (x : Int) (cap k : Nat) (hx : x = k) (hk : zs.length = k) (hl : zs.length ≤ maxLen) (h : IntsAt w .i64 a zs) :
    Calls Tryz.prog 142 #[.slice a k cap, .int .i64 z] w fun e w' => e = .returned (.bool (memB z zs)) ∧ w = w' := by
  subst hk
  exact cContains w z zs a cap hl h
theorem IntsAt.take {k : IntKind} {a : Option Addr} {zs : List Int} (h : IntsAt w k a zs) (n : Nat) : IntsAt w k a (zs.take n) := fun i hi => by
  have hl : i < zs.length := by rw [List.length_take] at hi; omega
  have := h i hl
  rw [List.getElem_take]
  exact this
theorem IntsAt.drewN {k : IntKind} {a : Option Addr} {zs : List Int} (h : IntsAt w k a zs) (n : Nat) : IntsAt (w.drewN n) k a zs := h
set_option maxHeartbeats 800000 in
theorem cCheck (t : Int) (zs : List Int) (a : Option Addr) (cap : Nat) (hc : zs.length ≤ cap) (hl : cap ≤ maxLen) (h : IntsAt w .i64 a zs) :
    Calls Tryz.prog 83 #[.agg #[.slice a zs.length cap, .int .i64 t]] w fun e w' => e = .returned (.int .i64 (checkR t zs)) ∧ Below w.heap.size w w' := by
  unfold maxLen at hl
  have HI := Lib.hid (h.below (bl_alloc (Below.refl _ w) (.cells #[.slice a zs.length cap, .int .i64 t] 45)) (Nat.le_refl _))
  have HB := Lib.hid (bl_alloc (Below.refl _ w) (.cells #[.slice a zs.length cap, .int .i64 t] 45))
  clear h
  by_cases h16 : 16 < zs.length
  · have hd : decide (16 < zs.length) = true := by simpa using h16
    have hdi : decide ((16 : Int) < (zs.length : Int)) = true := by simp; omega
    have HR := Lib.hid (check_long (t := t) h16)
    clear h16
    go_enter Tryz.func83, Tryz.ntmps83
    go_wp2
    go_ret
    exact ⟨ret_int (by rw [HR.out]; rfl), HB.out⟩
  · have hd : decide (16 < zs.length) = false := by simpa using h16
    have hdi : decide ((16 : Int) < (zs.length : Int)) = false := by simp; omega
    by_cases hi : inn t = true
    · have HR := Lib.hid (check_go h16 hi)
      clear h16
      go_enter Tryz.func83, Tryz.ntmps83
      go_wp2_with (go_at_call 141; refine (cIn _ t).mono ?_; rintro e w1 ⟨rfl, rfl⟩)
      go_loop [18] (fun i => ∃ k : Nat, k ≤ zs.length ∧ i = .int .i64 k ∧ chkGo (zs.take k) (zs.drop k) = chkGo [] zs) (fun i => zs.length - (intOf i).toNat)
      case atStart => exact ⟨0, Nat.zero_le _, rfl, rfl⟩
      case round =>
        obtain ⟨k, hk, rfl, hn⟩ := hrel
        have HN := Lib.hid hn
        clear hn
        by_cases hlt : k < zs.length
        · have HC := Lib.hid (cContains_at (w.alloc (.cells #[.slice a zs.length cap, .int .i64 t] 45)) zs[k] (zs.take k) a k cap k rfl (by rw [List.length_take]; omega) (by rw [List.length_take]; unfold maxLen; omega) (HI.out.take _ k))
          obtain ⟨hwf, b, off, rfl, hcell⟩ := HI.out k hlt
          clear hwf
          have H1 := chk_in zs k hlt
          have H2 := chk_twice zs k hlt
          have H3 := chk_on zs k hlt
          generalize zs[k] = x at hcell H1 H2 H3 HC
          rcases hix : inn x with _ | _
          · have HE := Lib.hid (HN.out.symm.trans (H1 hix))
            clear H1 H2 H3
            go_wp2_with (go_at_call 141; refine (cIn _ x).mono ?_; rintro e w1 ⟨rfl, rfl⟩)
            go_ret
            exact ⟨ret_int (by rw [HR.out, HE.out]; rfl), HB.out⟩
          · rcases hmx : memB x (zs.take k) with _ | _
            · have HE := Lib.hid ((H3 hix hmx).symm.trans HN.out)
              clear H1 H2 H3
              go_wp2_with (first
                | (go_at_call 141; refine (cIn _ x).mono ?_; rintro e w1 ⟨rfl, rfl⟩)
                | (go_at_call 142; refine HC.out.mono ?_; rintro e w1 ⟨rfl, rfl⟩))
              go_round
              case rel => exact ⟨k + 1, by omega, by go_num, HE.out⟩
              case measure => simp [intOf]; omega
            · have HE := Lib.hid (HN.out.symm.trans (H2 hix hmx))
              clear H1 H2 H3
              go_wp2_with (first
                | (go_at_call 141; refine (cIn _ x).mono ?_; rintro e w1 ⟨rfl, rfl⟩)
                | (go_at_call 142; refine HC.out.mono ?_; rintro e w1 ⟨rfl, rfl⟩))
              go_ret
              exact ⟨ret_int (by rw [HR.out, HE.out]; rfl), HB.out⟩
        · have HE := Lib.hid (HN.out.symm.trans (chk_end zs k (by omega)))
          go_wp2
          go_ret
          exact ⟨ret_int (by rw [HR.out, HE.out]; rfl), HB.out⟩
    · have hi' : inn t = false := by simpa using hi
      have HR := Lib.hid (check_tree h16 hi')
      clear h16 hi
      go_enter Tryz.func83, Tryz.ntmps83
      go_wp2_with (go_at_call 141; refine (cIn _ t).mono ?_; rintro e w1 ⟨rfl, rfl⟩)
      go_ret
      exact ⟨ret_int (by rw [HR.out]; rfl), HB.out⟩
end
end Go.Proofs.YtbhfbdcmamodcaaGreatDoor
namespace Go.Proofs.YtbhfbdcmamodcaaGreatDoor
open Go.RowKit PackMath
theorem u32_at (B p : Nat) (x : Int) (k : Nat) (hx : x = k) (w : World) (v : Value) (bs : List UInt8) (hk : k < 4294967296) (h : IsWr B w p v bs) (hB : B ≤ w.heap.size) (hl : bs.length + 8 ≤ 140737488355328) :
    Calls Tryz.prog 76 #[.pointer (some ⟨p, 0, none⟩), .int .u32 x] w fun e w' => e = .returned (.tuple #[]) ∧ ∃ v', IsWr B w' p v' (bs ++ be k 4) ∧ Moved w w' p v v' := by
  subst hx
  exact u32_any B p k w v bs hk h hB hl
theorem u8_at (B p : Nat) (x : Int) (k : Nat) (hx : x = k) (w : World) (v : Value) (bs : List UInt8) (hk : k < 256) (h : IsWr B w p v bs) (hB : B ≤ w.heap.size) (hl : bs.length + 8 ≤ 140737488355328) :
    Calls Tryz.prog 74 #[.pointer (some ⟨p, 0, none⟩), .int .u8 x] w fun e w' => e = .returned (.tuple #[]) ∧ ∃ v', IsWr B w' p v' (bs ++ be k 1) ∧ Moved w w' p v v' := by
  subst hx
  exact u8_any B p k w v bs hk h hB hl
section
variable (w : World)
theorem cCheck_ok (t : Int) (zs : List Int) (a : Option Addr) (cap : Nat) (hc : zs.length ≤ cap) (hl : cap ≤ maxLen) (h : IntsAt w .i64 a zs) (hok : checkR t zs = 0) :
    Calls Tryz.prog 83 #[.agg #[.slice a zs.length cap, .int .i64 t]] w fun e w' => e = .returned (.int .i64 0) ∧ Below w.heap.size w w' := by
  have := cCheck w t zs a cap hc hl h
  rw [hok] at this
  exact this
def encK (T : Nat) (zs : List Int) (k : Nat) : List UInt8 := be T 4 ++ be zs.length 1 ++ (zs.take k).flatMap fun z => be z.toNat 4
theorem encK_zero (T : Nat) (zs : List Int) : encK T zs 0 = be T 4 ++ be zs.length 1 := by unfold encK; simp
theorem encK_succ (T : Nat) (zs : List Int) (k x : Nat) (h : k < zs.length) (hx : zs[k] = x) : encK T zs (k + 1) = encK T zs k ++ be x 4 := by
  unfold encK; rw [encC_take zs k h, hx, ← List.append_assoc]; rfl
theorem encK_end (T : Nat) (zs : List Int) (k : Nat) (h : zs.length ≤ k) : encK T zs k = encC T zs := by
  unfold encK encC; rw [List.take_of_length_le h]; rfl
theorem encK_len (T : Nat) (zs : List Int) (k : Nat) (h : zs.length ≤ 16) : (encK T zs k).length ≤ 69 := by
  unfold encK
  rw [List.length_append, List.length_append, be_length, be_length, flat_len, List.length_take]
  omega
set_option maxHeartbeats 1600000 in
set_option maxRecDepth 100000 in
theorem cEncode_ok (t : Int) (zs : List Int) (a : Option Addr) (cap : Nat) (hc : zs.length ≤ cap) (hl : cap ≤ maxLen) (h : IntsAt w .i64 a zs) (hok : checkR t zs = 0) :
    Calls Tryz.prog 37 #[.agg #[.slice a zs.length cap, .int .i64 t]] w fun e w' => e = .returned (.tuple #[.string ⟨(encC t zs).toArray⟩, .int .i64 0]) ∧ Below w.heap.size w w' := by
  obtain ⟨h16, hin, hall⟩ := check_ok hok
  have hin' := inn_yes hin
  obtain ⟨T, rfl⟩ := Int.eq_ofNat_of_zero_le hin'.1
  have HALL := Lib.hid hall
  have HOK := Lib.hid hok
  have hT : T < 65536 := by omega
  have hHI : IntsAt (w.alloc (.cells #[.slice a zs.length cap, .int .i64 T] 45)) .i64 a zs := h.below (bl_alloc (Below.refl _ w) _) (Nat.le_refl _)
  have HI := Lib.hid hHI
  have HB := Lib.hid (bl_alloc (Below.refl _ w) (.cells #[.slice a zs.length cap, .int .i64 T] 45))
  clear h hok hin hin' hall hHI
  go_enter Tryz.func37, Tryz.ntmps37
  go_wp2_with (go_at_call 83; refine (cCheck_ok _ T zs a cap hc hl HI.out HOK.out).mono ?_; rintro e w1 ⟨rfl, hb⟩; have HB1 := Lib.hid hb; have HI1 := Lib.hid (HI.out.below hb (Nat.le_refl _)); have c0 := bl_cell hb (b := w.heap.size) (o := 0) (v := .slice a zs.length cap) (by rw [World.cell?_alloc_mark]; rfl); have c1 := bl_cell hb (b := w.heap.size) (o := 1) (v := .int .i64 T) (by rw [World.cell?_alloc_mark]; rfl); clear hb)
  go_wp2_with (go_at_call 71; refine (new_any w1).mono ?_; rintro e w2 ⟨rfl, hw2⟩; have H0 := Lib.hid (wr_new w1); rw [← hw2] at H0; have hb2 : Below w1.heap.size w1 w2 := (by rw [hw2]; exact bl_alloc (Below.refl _ _) _); have HB2 := Lib.hid hb2; have d0 := bl_cell hb2 c0; have d1 := bl_cell hb2 c1; clear hw2 hb2)
  go_wp2_with (go_at_call 76; refine (u32_at w1.heap.size w1.heap.size _ T rfl w2 _ _ (by omega) H0.out HB2.out.size (by decide)).mono ?_; rintro e w3 ⟨rfl, hh⟩; obtain ⟨v3, hr3, hm3⟩ := hh; have HR3 := Lib.hid hr3; have hb3 := HB2.out.trans (Moved.below hm3 H0.out HB2.out.size); have HB3 := Lib.hid hb3; have e0 := bl_cell hb3 c0; have e1 := bl_cell hb3 c1; clear hr3 hm3 hb3)
  go_wp2_with (go_at_call 74; refine (u8_at w1.heap.size w1.heap.size _ zs.length rfl w3 _ _ (by omega) HR3.out HB3.out.size (by rw [List.nil_append, be_length]; decide)).mono ?_; rintro e w4 ⟨rfl, hh⟩; obtain ⟨v4, hr4, hm4⟩ := hh; rw [List.nil_append, ← encK_zero] at hr4; have HR4 := Lib.hid hr4; have hb4 := HB3.out.trans (Moved.below hm4 HR3.out HB3.out.size); have HB4 := Lib.hid hb4; have g0 := bl_cell hb4 c0; have g1 := bl_cell hb4 c1; clear hr4 hm4 hb4)
  go_loopw [28] (fun i wr => ∃ (k : Nat) (v : Value), k ≤ zs.length ∧ i = .int .i64 k ∧ IsWr w1.heap.size wr w1.heap.size v (encK T zs k) ∧ Below w1.heap.size w1 wr) (fun i _ => zs.length - (intOf i).toNat)
  case atStart => exact ⟨0, v4, Nat.zero_le _, rfl, HR4.out, HB4.out⟩
  case round =>
    obtain ⟨k, v, hk, rfl, hwr, hbb⟩ := hrel
    have HR := Lib.hid hwr; have HBk := Lib.hid hbb
    clear hwr hbb
    by_cases hlt : k < zs.length
    · obtain ⟨hwf, b, off, rfl, hcell⟩ := HI1.out.below HBk.out (Nat.le_refl _) k hlt
      clear hwf
      have hx := inn_yes (HALL.out zs[k] (List.getElem_mem hlt))
      obtain ⟨x, hxe⟩ := Int.eq_ofNat_of_zero_le hx.1
      have HS := Lib.hid (encK_succ T zs k x hlt hxe)
      rw [hxe] at hcell hx
      have hx2 : x < 65536 := by omega
      clear hxe hx
      go_wp2_with (go_at_call 76; refine (u32_at w1.heap.size w1.heap.size _ x rfl wr _ _ (by omega) HR.out HBk.out.size (by have := encK_len T zs k h16; omega)).mono ?_; rintro e wn ⟨rfl, hh⟩; obtain ⟨vn, hrn, hmn⟩ := hh; rw [← HS.out] at hrn; have HRn := Lib.hid hrn; have HBn := Lib.hid (HBk.out.trans (Moved.below hmn HR.out HBk.out.size)); clear hrn hmn)
      go_roundw
      case rel => exact ⟨k + 1, vn, by omega, by go_num, HRn.out, HBn.out⟩
      case measure => simp [intOf]; omega
    · have HE := Lib.hid (encK_end T zs k (by omega))
      go_wp2_with (go_at_call 77; refine (bytes_any _ _ wr v _ HR.out).mono ?_; rintro e wz ⟨rfl, rfl⟩)
      go_ret2
      rw [HE.out]
      exact ⟨rfl, bl_trans HB.out (bl_trans HB1.out HBk.out)⟩
end
end Go.Proofs.YtbhfbdcmamodcaaGreatDoor
