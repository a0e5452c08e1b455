/- Walks of layer 9: the bytes of a commit, in the program and in the document's answer. -/
import Derived.Test.YtmmabkppadokkaaCmW2
import Derived.Test.YtmmabkppadokkaaNum
import Derived.Deep.RegionWith
set_option linter.unusedVariables false
set_option linter.unusedSimpArgs false
namespace Go.Proofs.Ytmmabkppadokkaa
open Go.RowKit PackMath

theorem ba_of {S : ByteArray} {l : List UInt8} (h : S.data.toList = l) : S = ⟨l.toArray⟩ := by
  subst h; cases S; simp
theorem u32_at (B p : Nat) (x : Int) (k : Nat) (hx : x = k) (w : World) (v : Value) (bs : List UInt8) (hk : k < 4294967296) (h : IsWr B w p v bs) (hB : B ≤ w.heap.size) (hl : bs.length + 8 ≤ 140737488355328) :
    Calls Try.prog 19 #[.pointer (some ⟨p, 0, none⟩), .int .u32 x] w fun e w' => e = .returned (.tuple #[]) ∧ ∃ v', IsWr B w' p v' (bs ++ be k 4) ∧ Moved w w' p v v' := by
  subst hx
  exact u32_any B p k w v bs hk h hB hl
theorem u8_at (B p : Nat) (x : Int) (k : Nat) (hx : x = k) (w : World) (v : Value) (bs : List UInt8) (hk : k < 256) (h : IsWr B w p v bs) (hB : B ≤ w.heap.size) (hl : bs.length + 8 ≤ 140737488355328) :
    Calls Try.prog 20 #[.pointer (some ⟨p, 0, none⟩), .int .u8 x] w fun e w' => e = .returned (.tuple #[]) ∧ ∃ v', IsWr B w' p v' (bs ++ be k 1) ∧ Moved w w' p v v' := by
  subst hx
  exact u8_any B p k w v bs hk h hB hl

section
variable (w : World)
set_option maxHeartbeats 800000 in
theorem cEncode_bad (t : Int) (zs : List Int) (a : Option Addr) (cap : Nat) (hc : zs.length ≤ cap) (hl : cap ≤ maxLen) (h : IntsAt w .i64 a zs) (hbad : checkR t zs ≠ 0) :
    Calls Try.prog 9 #[.agg #[.slice a zs.length cap, .int .i64 t]] w fun e w' => e = .returned (.tuple #[.string ⟨#[]⟩, .int .i64 (checkR t zs)]) ∧ Below w.heap.size w w' := by
  have HI := Lib.hid (h.below (bl_alloc (Below.refl _ w) (.cells #[.slice a zs.length cap, .int .i64 t] 24)) (Nat.le_refl _))
  have HB := Lib.hid (bl_alloc (Below.refl _ w) (.cells #[.slice a zs.length cap, .int .i64 t] 24))
  have hd : (((checkR t zs : Nat) : Int) != 0) = true := by simp; omega
  clear h hbad
  go_enter Try.func9, Try.ntmps9
  go_wp2_with (go_at_call 11; refine (cCheck _ t zs a cap hc hl HI.out).mono ?_; rintro e w1 ⟨rfl, hb⟩; have HB1 := Lib.hid hb; clear hb)
  go_ret2
  exact ⟨rfl, bl_trans HB.out HB1.out⟩
set_option maxHeartbeats 800000 in
theorem dEncode_bad (t : Int) (zs : List Int) (a : Option Addr) (cap : Nat) (hc : zs.length ≤ cap) (hl : cap ≤ maxLen) (h : IntsAt w .i64 a zs) (hbad : checkR t zs ≠ 0) :
    Calls Try.prog 10 #[.agg #[.slice a zs.length cap, .int .i64 t]] w fun e w' => e = .returned (.tuple #[.string ⟨#[]⟩, .int .i64 (checkR t zs)]) ∧ Below w.heap.size w w' := by
  have HI := Lib.hid (h.below (bl_alloc (Below.refl _ w) (.cells #[.slice a zs.length cap, .int .i64 t] 24)) (Nat.le_refl _))
  have HB := Lib.hid (bl_alloc (Below.refl _ w) (.cells #[.slice a zs.length cap, .int .i64 t] 24))
  have hd : (((checkR t zs : Nat) : Int) != 0) = true := by simp; omega
  clear h hbad
  go_enter Try.func10, Try.ntmps10
  go_wp2_with (go_at_call 12; refine (dCheck _ t zs a cap hc hl HI.out).mono ?_; rintro e w1 ⟨rfl, hb⟩; have HB1 := Lib.hid hb; clear hb)
  go_ret2
  exact ⟨rfl, bl_trans HB.out HB1.out⟩

theorem cCheck_ok (t : Int) (zs : List Int) (a : Option Addr) (cap : Nat) (hc : zs.length ≤ cap) (hl : cap ≤ maxLen) (h : IntsAt w .i64 a zs) (hok : checkR t zs = 0) :
    Calls Try.prog 11 #[.agg #[.slice a zs.length cap, .int .i64 t]] w fun e w' => e = .returned (.int .i64 0) ∧ Below w.heap.size w w' := by
  have := cCheck w t zs a cap hc hl h
  rw [hok] at this
  exact this
theorem dCheck_ok (t : Int) (zs : List Int) (a : Option Addr) (cap : Nat) (hc : zs.length ≤ cap) (hl : cap ≤ maxLen) (h : IntsAt w .i64 a zs) (hok : checkR t zs = 0) :
    Calls Try.prog 12 #[.agg #[.slice a zs.length cap, .int .i64 t]] w fun e w' => e = .returned (.int .i64 0) ∧ Below w.heap.size w w' := by
  have := dCheck w t zs a cap hc hl h
  rw [hok] at this
  exact this

/-- The bytes of the tree, the count and the first parents. -/
def encK (T : Nat) (zs : List Int) (k : Nat) : List UInt8 := be T 4 ++ be zs.length 1 ++ (zs.take k).flatMap fun z => be z.toNat 4
theorem encK_zero (T : Nat) (zs : List Int) : encK T zs 0 = be T 4 ++ be zs.length 1 := by unfold encK; simp
theorem encK_succ (T : Nat) (zs : List Int) (k x : Nat) (h : k < zs.length) (hx : zs[k] = x) : encK T zs (k + 1) = encK T zs k ++ be x 4 := by
  unfold encK; rw [encC_take zs k h, hx, ← List.append_assoc]; rfl
theorem encK_end (T : Nat) (zs : List Int) (k : Nat) (h : zs.length ≤ k) : encK T zs k = encC T zs := by
  unfold encK encC; rw [List.take_of_length_le h]; rfl
theorem encK_len (T : Nat) (zs : List Int) (k : Nat) (h : zs.length ≤ 16) : (encK T zs k).length ≤ 69 := by
  unfold encK
  rw [List.length_append, List.length_append, be_length, be_length, flat_len, List.length_take]
  omega

set_option maxHeartbeats 1600000 in
set_option maxRecDepth 100000 in
theorem cEncode_ok (t : Int) (zs : List Int) (a : Option Addr) (cap : Nat) (hc : zs.length ≤ cap) (hl : cap ≤ maxLen) (h : IntsAt w .i64 a zs) (hok : checkR t zs = 0) :
    Calls Try.prog 9 #[.agg #[.slice a zs.length cap, .int .i64 t]] w fun e w' => e = .returned (.tuple #[.string ⟨(encC t zs).toArray⟩, .int .i64 0]) ∧ Below w.heap.size w w' := by
  obtain ⟨h16, hin, hall⟩ := check_ok hok
  have hin' := inn_yes hin
  obtain ⟨T, rfl⟩ := Int.eq_ofNat_of_zero_le hin'.1
  have HALL := Lib.hid hall
  have HOK := Lib.hid hok
  have hT : T < 65536 := by omega
  have hHI : IntsAt (w.alloc (.cells #[.slice a zs.length cap, .int .i64 T] 24)) .i64 a zs := h.below (bl_alloc (Below.refl _ w) _) (Nat.le_refl _)
  have HI := Lib.hid hHI
  have HB := Lib.hid (bl_alloc (Below.refl _ w) (.cells #[.slice a zs.length cap, .int .i64 T] 24))
  clear h hok hin hin' hall hHI
  go_enter Try.func9, Try.ntmps9
  go_wp2_with (go_at_call 11; refine (cCheck_ok _ T zs a cap hc hl HI.out HOK.out).mono ?_; rintro e w1 ⟨rfl, hb⟩; have HB1 := Lib.hid hb; have HI1 := Lib.hid (HI.out.below hb (Nat.le_refl _)); have c0 := bl_cell hb (b := w.heap.size) (o := 0) (v := .slice a zs.length cap) (by rw [World.cell?_alloc_mark]; rfl); have c1 := bl_cell hb (b := w.heap.size) (o := 1) (v := .int .i64 T) (by rw [World.cell?_alloc_mark]; rfl); clear hb)
  go_wp2_with (go_at_call 18; refine (new_any w1).mono ?_; rintro e w2 ⟨rfl, hw2⟩; have H0 := Lib.hid (wr_new w1); rw [← hw2] at H0; have hb2 : Below w1.heap.size w1 w2 := (by rw [hw2]; exact bl_alloc (Below.refl _ _) _); have HB2 := Lib.hid hb2; have d0 := bl_cell hb2 c0; have d1 := bl_cell hb2 c1; clear hw2 hb2)
  go_wp2_with (go_at_call 19; refine (u32_at w1.heap.size w1.heap.size _ T rfl w2 _ _ (by omega) H0.out HB2.out.size (by decide)).mono ?_; rintro e w3 ⟨rfl, hh⟩; obtain ⟨v3, hr3, hm3⟩ := hh; have HR3 := Lib.hid hr3; have hb3 := HB2.out.trans (Moved.below hm3 H0.out HB2.out.size); have HB3 := Lib.hid hb3; have e0 := bl_cell hb3 c0; have e1 := bl_cell hb3 c1; clear hr3 hm3 hb3)
  go_wp2_with (go_at_call 20; refine (u8_at w1.heap.size w1.heap.size _ zs.length rfl w3 _ _ (by omega) HR3.out HB3.out.size (by rw [List.nil_append, be_length]; decide)).mono ?_; rintro e w4 ⟨rfl, hh⟩; obtain ⟨v4, hr4, hm4⟩ := hh; rw [List.nil_append, ← encK_zero] at hr4; have HR4 := Lib.hid hr4; have hb4 := HB3.out.trans (Moved.below hm4 HR3.out HB3.out.size); have HB4 := Lib.hid hb4; have g0 := bl_cell hb4 c0; have g1 := bl_cell hb4 c1; clear hr4 hm4 hb4)
  go_loopw [28] (fun i wr => ∃ (k : Nat) (v : Value), k ≤ zs.length ∧ i = .int .i64 k ∧ IsWr w1.heap.size wr w1.heap.size v (encK T zs k) ∧ Below w1.heap.size w1 wr) (fun i _ => zs.length - (intOf i).toNat)
  case atStart => exact ⟨0, v4, Nat.zero_le _, rfl, HR4.out, HB4.out⟩
  case round =>
    obtain ⟨k, v, hk, rfl, hwr, hbb⟩ := hrel
    have HR := Lib.hid hwr; have HBk := Lib.hid hbb
    clear hwr hbb
    by_cases hlt : k < zs.length
    · obtain ⟨hwf, b, off, rfl, hcell⟩ := HI1.out.below HBk.out (Nat.le_refl _) k hlt
      clear hwf
      have hx := inn_yes (HALL.out zs[k] (List.getElem_mem hlt))
      obtain ⟨x, hxe⟩ := Int.eq_ofNat_of_zero_le hx.1
      have HS := Lib.hid (encK_succ T zs k x hlt hxe)
      rw [hxe] at hcell hx
      have hx2 : x < 65536 := by omega
      clear hxe hx
      go_wp2_with (go_at_call 19; refine (u32_at w1.heap.size w1.heap.size _ x rfl wr _ _ (by omega) HR.out HBk.out.size (by have := encK_len T zs k h16; omega)).mono ?_; rintro e wn ⟨rfl, hh⟩; obtain ⟨vn, hrn, hmn⟩ := hh; rw [← HS.out] at hrn; have HRn := Lib.hid hrn; have HBn := Lib.hid (HBk.out.trans (Moved.below hmn HR.out HBk.out.size)); clear hrn hmn)
      go_roundw
      case rel => exact ⟨k + 1, vn, by omega, by go_num, HRn.out, HBn.out⟩
      case measure => simp [intOf]; omega
    · have HE := Lib.hid (encK_end T zs k (by omega))
      go_wp2_with (go_at_call 21; refine (bytes_any _ _ wr v _ HR.out).mono ?_; rintro e wz ⟨rfl, rfl⟩)
      go_ret2
      rw [HE.out]
      exact ⟨rfl, bl_trans HB.out (bl_trans HB1.out HBk.out)⟩

set_option maxHeartbeats 1600000 in
set_option maxRecDepth 100000 in
theorem dEncode_ok (t : Int) (zs : List Int) (a : Option Addr) (cap : Nat) (hc : zs.length ≤ cap) (hl : cap ≤ maxLen) (h : IntsAt w .i64 a zs) (hok : checkR t zs = 0) :
    Calls Try.prog 10 #[.agg #[.slice a zs.length cap, .int .i64 t]] w fun e w' => e = .returned (.tuple #[.string ⟨(encC t zs).toArray⟩, .int .i64 0]) ∧ Below w.heap.size w w' := by
  obtain ⟨h16, hin, hall⟩ := check_ok hok
  have hin' := inn_yes hin
  obtain ⟨T, rfl⟩ := Int.eq_ofNat_of_zero_le hin'.1
  have HALL := Lib.hid hall
  have HOK := Lib.hid hok
  have hT : T < 65536 := by omega
  have hHI : IntsAt (w.alloc (.cells #[.slice a zs.length cap, .int .i64 T] 24)) .i64 a zs := h.below (bl_alloc (Below.refl _ w) _) (Nat.le_refl _)
  have HI := Lib.hid hHI
  have HB := Lib.hid (bl_alloc (Below.refl _ w) (.cells #[.slice a zs.length cap, .int .i64 T] 24))
  clear h hok hin hin' hall hHI
  go_enter Try.func10, Try.ntmps10
  go_wp2_with (go_at_call 12; refine (dCheck_ok _ T zs a cap hc hl HI.out HOK.out).mono ?_; rintro e w1 ⟨rfl, hb⟩; have HB1 := Lib.hid hb; have HI1 := Lib.hid (HI.out.below hb (Nat.le_refl _)); have c0 := bl_cell hb (b := w.heap.size) (o := 0) (v := .slice a zs.length cap) (by rw [World.cell?_alloc_mark]; rfl); have c1 := bl_cell hb (b := w.heap.size) (o := 1) (v := .int .i64 T) (by rw [World.cell?_alloc_mark]; rfl); clear hb)
  have N0 := Lib.hid (fun W => refNumber_at (T : Int) T rfl 4 4 rfl (by omega) (by decide) W)
  have N1 := Lib.hid (fun W => refNumber_at (zs.length : Int) zs.length rfl 1 1 rfl (by omega) (by decide) W)
  have hl1 : (be T 4).length ≤ 4 := by rw [be_length]; decide
  have hl2 : (be zs.length 1).length ≤ 1 := by rw [be_length]; decide
  have hw1 : IntKind.u64.wrap (T : Int) = (T : Int) := IntWalk.u64_in _ (by omega)
  have hw2 : IntKind.u64.wrap (zs.length : Int) = (zs.length : Int) := IntWalk.u64_in _ (by omega)
  go_region_with (first
    | (go_at_call 22; (with_reducible refine (N0.out _).mono ?_); rintro e w2 ⟨rfl, hb⟩; have hB2 := (Below.drew (Below.refl _ w1)).trans hb; have d0 := bl_cell hB2 c0; have d1 := bl_cell hB2 c1; clear hb)
    | (go_at_call 22; (with_reducible refine (N1.out _).mono ?_); rintro e w3 ⟨rfl, hb⟩; have hB3 := hB2.trans (hb.mono hB2.size)))
  all_goals
    have c0' := bl_cell hB3 c0
    have HB3 := Lib.hid hB3
    generalize hS0 : (ByteArray.mk (be T 4).toArray ++ ByteArray.mk (be zs.length 1).toArray) = S0
    have HS0 : Hid (S0.data.toList = encK T zs 0) := Lib.hid (by rw [← hS0, encK_zero]; simp)
    have c00 := c0
    clear hS0 hB2 hB3 c0 c1 d0 d1
    go_wp2
    go_loopw [5, 6] (fun s i wr => ∃ (k : Nat) (S : ByteArray), k ≤ zs.length ∧ i = .int .i64 k ∧ s = .string S ∧ S.data.toList = encK T zs k ∧ Below w1.heap.size w1 wr) (fun _ i _ => zs.length - (intOf i).toNat)
    case atStart => exact ⟨0, S0, Nat.zero_le _, rfl, rfl, HS0.out, HB3.out⟩
    case round =>
      obtain ⟨k, S, hk, rfl, rfl, hS, hbb⟩ := hrel
      have HS := Lib.hid hS; have HBk := Lib.hid hbb
      have c0'' := bl_cell hbb c00
      clear hS hbb
      by_cases hlt : k < zs.length
      · obtain ⟨hwf, b, off, rfl, hcell⟩ := HI1.out.below HBk.out (Nat.le_refl _) k hlt
        clear hwf
        have hx := inn_yes (HALL.out zs[k] (List.getElem_mem hlt))
        obtain ⟨x, hxe⟩ := Int.eq_ofNat_of_zero_le hx.1
        have HX := Lib.hid (encK_succ T zs k x hlt hxe)
        rw [hxe] at hcell hx
        have hx2 : x < 65536 := by omega
        have hl3 : (be x 4).length ≤ 4 := by rw [be_length]; decide
        have hl4 : S.size ≤ 69 := by
          have h1 := congrArg List.length HS.out
          have h2 := encK_len T zs k h16
          have h3 : S.data.toList.length = S.size := by simp
          omega
        have NX := Lib.hid (fun W => refNumber_at (x : Int) x rfl 4 4 rfl (by omega) (by decide) W)
        clear hxe hx
        go_wp2_with (go_at_call 22; (with_reducible refine (NX.out _).mono ?_); rintro e wn ⟨rfl, hb⟩; have HBn := Lib.hid (bl_trans HBk.out hb); clear hb)
        go_roundw
        case rel => exact ⟨k + 1, _, by omega, by go_num, rfl, by rw [HX.out, ← HS.out]; simp, HBn.out⟩
        case measure => simp [intOf]; omega
      · have HE := Lib.hid (ba_of (HS.out.trans (encK_end T zs k (by omega))))
        go_wp2
        go_ret2
        rw [HE.out]
        exact ⟨rfl, bl_trans HB.out (bl_trans HB1.out HBk.out)⟩
end
end Go.Proofs.Ytmmabkppadokkaa
