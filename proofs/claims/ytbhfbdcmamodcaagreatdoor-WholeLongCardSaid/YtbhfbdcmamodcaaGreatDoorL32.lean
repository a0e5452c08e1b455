/- Walks of layer 8: the bytes of a tree, by the program. -/
import Derived.Test.YtbhfbdcmamodcaaGreatDoorL11
import Derived.Test.YtbhfbdcmamodcaaGreatDoorL22
import Derived.Test.YtbhfbdcmamodcaaGreatDoorL31
set_option linter.unusedVariables false
set_option linter.unusedSimpArgs false
namespace Go.Proofs.YtbhfbdcmamodcaaGreatDoor
open Go.RowKit TrMath PackMath
theorem wr8_at (B p : Nat) (x : Int) (k : Nat) (hx : x = k) (w : World) (v : Value) (bs : List UInt8) (hk : k < 256) (h : IsWr B w p v bs) (hB : B ≤ w.heap.size) (hl : bs.length + 8 ≤ 140737488355328) :
    Calls Tryz.prog 74 #[.pointer (some ⟨p, 0, none⟩), .int .u8 x] w fun e w' => e = .returned (.tuple #[]) ∧ ∃ v', IsWr B w' p v' (bs ++ be k 1) ∧ Moved w w' p v v' := by
  subst hx
  exact u8_any B p k w v bs hk h hB hl
theorem wr16_at (B p : Nat) (x : Int) (k : Nat) (hx : x = k) (w : World) (v : Value) (bs : List UInt8) (hk : k < 65536) (h : IsWr B w p v bs) (hB : B ≤ w.heap.size) (hl : bs.length + 8 ≤ 140737488355328) :
    Calls Tryz.prog 72 #[.pointer (some ⟨p, 0, none⟩), .int .u16 x] w fun e w' => e = .returned (.tuple #[]) ∧ ∃ v', IsWr B w' p v' (bs ++ be k 2) ∧ Moved w w' p v v' := by
  subst hx
  exact u16_any B p k w v bs hk h hB hl
theorem wr32_at (B p : Nat) (x : Int) (k : Nat) (hx : x = k) (w : World) (v : Value) (bs : List UInt8) (hk : k < 4294967296) (h : IsWr B w p v bs) (hB : B ≤ w.heap.size) (hl : bs.length + 8 ≤ 140737488355328) :
    Calls Tryz.prog 76 #[.pointer (some ⟨p, 0, none⟩), .int .u32 x] w fun e w' => e = .returned (.tuple #[]) ∧ ∃ v', IsWr B w' p v' (bs ++ be k 4) ∧ Moved w w' p v v' := by
  subst hx
  exact u32_any B p k w v bs hk h hB hl
theorem wr_bel {B p : Nat} {w w' : World} {v : Value} {bs : List UInt8} (h : IsWr B w p v bs) (k : Below w.heap.size w w') : IsWr B w' p v bs := by
  refine ⟨h.base, by rw [k.block p (Array.getElem?_eq_some_iff.1 h.cell).1]; exact h.cell, row_kept h.own (fun i _ hi => k.block i hi)⟩
def encE1 (last p : ByteArray) (x : Nat) : List UInt8 := be (alkB last p) 1 ++ (be (p.size - alkB last p) 1 ++ ((kB p).drop (alkB last p) ++ be x 4))
def lastP (l : Ents) (k : Nat) : ByteArray := if k = 0 then ⟨#[]⟩ else match l[k - 1]? with | some e => e.1 | none => ⟨#[]⟩
theorem lastP_succ {l : Ents} {k : Nat} {p : ByteArray} {x : Int} (hk : k < l.length) (hx : l[k] = (p, x)) : lastP l (k + 1) = p := by
  unfold lastP
  rw [if_neg (by omega), Nat.add_sub_cancel, List.getElem?_eq_getElem hk, hx]
def encGo (l : Ents) : Nat → List UInt8
  | 0 => be l.length 2
  | k + 1 => encGo l k ++ match l[k]? with | some e => encE1 (lastP l k) e.1 e.2.toNat | none => []
theorem encGo_succ {l : Ents} {k : Nat} {p : ByteArray} {x : Nat} (hk : k < l.length) (hx : l[k] = (p, (x : Int))) : encGo l (k + 1) = encGo l k ++ encE1 (lastP l k) p x := by
  rw [encGo, List.getElem?_eq_getElem hk, hx]; rfl
theorem encE1_len (last p : ByteArray) (x : Nat) : (encE1 last p x).length = 6 + (p.size - alkB last p) := by
  unfold encE1
  rw [List.length_append, List.length_append, List.length_append, be_length, be_length, be_length, List.length_drop]
  show _ + (_ + (p.size - _ + _)) = _
  omega
theorem encGo_len (l : Ents) (hs : ∀ e ∈ l, e.1.size ≤ 255) : ∀ k, (encGo l k).length ≤ 2 + k * 261 := by
  intro k
  induction k with
  | zero => rw [encGo, be_length]; omega
  | succ k ih =>
    rw [encGo, List.length_append]
    have h0 : (match l[k]? with | some e => encE1 (lastP l k) e.1 e.2.toNat | none => []).length ≤ 261 := by
      cases e : l[k]? with
      | none => exact Nat.zero_le _
      | some q =>
        show (encE1 (lastP l k) q.1 q.2.toNat).length ≤ 261
        have h2 := hs q (List.mem_of_getElem? e)
        rw [encE1_len]
        omega
    omega
theorem chk_ok {l : Ents} (h : chkL l = 0) : ∀ j, j < l.length → wrg l j = 0 := by
  intro j hj
  by_cases hw : wrg l j = 0
  · exact hw
  · exfalso
    unfold chkL at h
    cases e : (List.range l.length).find? (fun k => decide (wrg l k ≠ 0)) with
    | none => rw [List.find?_eq_none] at e; have := e j (List.mem_range.2 hj); simp at this; exact hw this
    | some k => rw [e] at h; have := List.find?_some e; simp at this; exact this h
theorem chk_short {l : Ents} (h : chkL l = 0) : ∀ e ∈ l, e.1.size ≤ 255 := by
  intro e he
  obtain ⟨j, hj, rfl⟩ := List.mem_iff_getElem.1 he
  have h1 := chk_ok h j hj
  obtain ⟨p, x, hx⟩ : ∃ p x, l[j] = (p, x) := ⟨_, _, rfl⟩
  rw [wrg_at hj hx] at h1
  rw [hx]
  show p.size ≤ 255
  by_cases hp : 255 < p.size
  · rw [if_pos hp] at h1; exact absurd h1 (by decide)
  · omega
def encErr (l : Ents) : Int := if 1024 < l.length then 5 else chkL l
structure BoxK (w : World) (b : Nat) (v : Value) (p : ByteArray) (x : Int) : Prop where
  lt : b < w.heap.size
  ne : ∀ g, v.ownBlock = some g → g ≠ b
  c0 : w.cell? ⟨b, 0, none⟩ = some (.string p)
  c1 : w.cell? ⟨b, 1, none⟩ = some (.int .u32 x)
theorem BoxK.moved {w w' : World} {b pw : Nat} {v v' : Value} {p : ByteArray} {x : Int} (h : BoxK w b v p x) (k : Moved w w' pw v v') (hb : b ≠ pw) : BoxK w' b v' p x := by
  have e := k.block b h.lt hb (fun e => h.ne b e.symm rfl)
  refine ⟨Nat.lt_of_lt_of_le h.lt k.size, fun g hg hgb => ?_, by rw [World.cell?_of_block e]; exact h.c0, by rw [World.cell?_of_block e]; exact h.c1⟩
  rcases k.lies with h1 | ⟨g', h1, h2⟩
  · exact h.ne g (by rw [← h1]; exact hg) hgb
  · rw [hg] at h1; cases h1; have := h.lt; omega
theorem BoxK.start {B pw : Nat} {w : World} {v : Value} {bs : List UInt8} (h : IsWr B w pw v bs) (p : ByteArray) (x : Int) (t : TypeId) (n : Nat) : BoxK ((w.alloc (.cells #[.string p, .int .u32 x] t)).drewN n) w.heap.size v p x :=
  ⟨by show w.heap.size < (w.alloc _).heap.size; simp, fun g hg e => by have := own_lt h.own g hg; omega, by show (w.alloc _).cell? _ = _; rw [World.cell?_alloc_mark]; rfl, by show (w.alloc _).cell? _ = _; rw [World.cell?_alloc_mark]; rfl⟩
theorem ext_data (p : ByteArray) (n : Nat) : (p.extract n p.size).data.toList = (kB p).drop n := by
  unfold kB
  rw [ByteArray.data_extract, Array.toList_extract, List.extract_eq_take_drop]
  exact List.take_of_length_le (by simp)
set_option maxHeartbeats 2000000 in
set_option maxRecDepth 100000 in
theorem tEncodeOk (l : Ents) (hW : Words l) (hok : encErr l = 0) (a : Option Addr) (c : Nat) (w : World) (h : EnAt w a l) :
    Calls Tryz.prog 33 #[.slice a l.length c] w fun e w' => e = .returned (.tuple #[.string ⟨(encGo l l.length).toArray⟩, .int .i64 0]) ∧ Below w.heap.size w w' := by
  have hlen : ¬ 1024 < l.length := fun k => by unfold encErr at hok; rw [if_pos k] at hok; exact absurd hok (by decide)
  have hchk : chkL l = 0 := by unfold encErr at hok; rw [if_neg hlen] at hok; exact hok
  have HC := Lib.hid (show Calls Tryz.prog 70 #[.slice a l.length c] w fun e w' => e = .returned (.int .i64 0) ∧ Below w.heap.size w w' by have := tCheck l a c (by unfold maxLen; omega) w h; rw [hchk] at this; exact this)
  have HSH := Lib.hid (chk_short hchk)
  have HEL := Lib.hid (encGo_len l (chk_short hchk))
  have HA := Lib.hid h; have HWD := Lib.hid hW
  have hlz : decide (1024 < (l.length : Int)) = false := by simp; omega
  have hlw : IntKind.u16.wrap (l.length : Int) = (l.length : Int) := IntWalk.u16_in _ (by omega)
  clear h hW hok hchk
  go_enter Tryz.func33, Tryz.ntmps33
  go_wp2_with (first
    | (go_at_call 70; (with_reducible refine (HC.out).mono ?_); rintro e w1 ⟨rfl, hb⟩; have HB := Lib.hid hb; clear hb)
    | (go_at_call 71; refine (new_any w1).mono ?_; rintro e w2 ⟨rfl, hw2⟩; have H0 := Lib.hid (wr_new w1); rw [← hw2] at H0; have hb2 : Below w1.heap.size w1 w2 := (by rw [hw2]; exact bl_alloc (Below.refl _ _) _); have HB2 := Lib.hid hb2; clear hw2 hb2)
    | (go_at_call 72; refine (wr16_at w1.heap.size w1.heap.size _ l.length rfl w2 _ _ (by omega) H0.out HB2.out.size (by decide)).mono ?_; rintro e w3 ⟨rfl, hh⟩; obtain ⟨v3, hr3, hm3⟩ := hh; have HR3 := Lib.hid hr3; have HB3 := Lib.hid (HB2.out.trans (Moved.below hm3 H0.out HB2.out.size)); clear hr3 hm3))
  go_loopw [6, 26] (fun sv iv wr => ∃ (k : Nat) (v : Value), k ≤ l.length ∧ iv = .int .i64 k ∧ sv = .string (lastP l k) ∧ IsWr w1.heap.size wr w1.heap.size v (encGo l k) ∧ Below w1.heap.size w1 wr) (fun _ iv _ => l.length - (intOf iv).toNat)
  case atStart => exact ⟨0, v3, Nat.zero_le _, rfl, rfl, HR3.out, HB3.out⟩
  case round =>
    obtain ⟨k, v, hk, rfl, rfl, hwr, hbb⟩ := hrel
    have HR := Lib.hid hwr; have HBk := Lib.hid hbb
    have hpw := (Array.getElem?_eq_some_iff.1 hwr.cell).1
    have hwz := hbb.size
    clear hwr hbb
    by_cases hlt : k < l.length
    · obtain ⟨b1, o1, rfl, hb1, p1, p2⟩ := HA.out.below (bl_trans HB.out HBk.out) k hlt
      obtain ⟨hx0, hx1⟩ := HWD.out.get hlt
      obtain ⟨p, x, hx⟩ : ∃ p x, l[k] = (p, x) := ⟨_, _, rfl⟩
      have hps := HSH.out l[k] (List.getElem_mem hlt)
      have HX := Lib.hid hx
      simp only [hx] at p1 p2 hx0 hx1 hps
      clear hx
      obtain ⟨X, rfl⟩ := Int.eq_ofNat_of_zero_le hx0
      have HN := Lib.hid (encGo_succ hlt HX.out)
      have HLS := Lib.hid (lastP_succ hlt HX.out)
      have hel := HEL.out k
      obtain ⟨last, hlast⟩ : ∃ q, lastP l k = q := ⟨_, rfl⟩
      rw [hlast] at HN ⊢
      have hal := alkB_le last p
      have hlsz : last.size ≤ 255 := by
        rw [← hlast]
        unfold lastP
        split
        · decide
        · cases e : l[k - 1]? with
          | none => decide
          | some e2 => exact HSH.out e2 (List.mem_of_getElem? e)
      have HLA := Lib.hid hlast
      have HAL := Lib.hid (fun W => tAlike last p (by unfold maxLen; omega) (by unfold maxLen; omega) W)
      have HE1 := Lib.hid (show encE1 last p X = be (alkB last p) 1 ++ (be (p.size - alkB last p) 1 ++ ((kB p).drop (alkB last p) ++ be X 4)) from rfl)
      generalize alkB last p = n at *
      have hn8 : IntKind.u8.wrap (n : Int) = (n : Int) := IntWalk.u8_in _ (by omega)
      have hs8 : IntKind.u8.wrap ((p.size : Int) - (n : Int)) = ((p.size - n : Nat) : Int) := by rw [IntWalk.u8_in _ (by omega)]; omega
      clear hlast
      go_wp2_with fail
      refine (HAL.out _).mono ?_
      rintro e w4 ⟨rfl, nd, rfl⟩
      have HK := Lib.hid (BoxK.start HR.out p X 86 nd)
      have HR4 := Lib.hid (wr_bel HR.out (bl_drewN (bl_alloc (Below.refl _ wr) (.cells #[.string p, .int .u32 X] 86)) nd))
      have HB4 := Lib.hid (bl_drewN (bl_alloc HBk.out (.cells #[.string p, .int .u32 X] 86)) nd)
      have hbw : wr.heap.size ≠ w1.heap.size := by omega
      generalize (wr.alloc (.cells #[.string p, .int .u32 X] 86)).drewN nd = w4 at *
      have hz4 := HB4.out.size
      go_wp2_with fail
      refine (wr8_at w1.heap.size w1.heap.size _ n rfl w4 _ _ (by omega) HR4.out hz4 (by omega)).mono ?_
      rintro e w5 ⟨rfl, hh⟩
      obtain ⟨v5, hr5, hm5⟩ := hh
      have HR5 := Lib.hid hr5; have HK5 := Lib.hid (HK.out.moved hm5 hbw); have HB5 := Lib.hid (HB4.out.trans (Moved.below hm5 HR4.out hz4))
      have hz5 := HB5.out.size
      have c5 := HK5.out.c0
      clear hr5 hm5
      go_wp2_with fail
      refine (wr8_at w1.heap.size w1.heap.size _ (p.size - n) rfl w5 _ _ (by omega) HR5.out hz5 (by rw [List.length_append, be_length]; omega)).mono ?_
      rintro e w6 ⟨rfl, hh⟩
      obtain ⟨v6, hr6, hm6⟩ := hh
      have HR6 := Lib.hid hr6; have HK6 := Lib.hid (HK5.out.moved hm6 hbw); have HB6 := Lib.hid (HB5.out.trans (Moved.below hm6 HR5.out hz5))
      have hz6 := HB6.out.size
      have c6 := HK6.out.c0
      clear hr6 hm6 c5
      go_wp2_with fail
      refine (raw_any w1.heap.size w1.heap.size (p.extract n p.size) w6 _ _ HR6.out hz6 (by rw [List.length_append, List.length_append, be_length, be_length, ByteArray.size_extract]; omega)).mono ?_
      rintro e w7 ⟨rfl, hh⟩
      obtain ⟨v7, hr7, hm7⟩ := hh
      rw [ext_data] at hr7
      have HR7 := Lib.hid hr7; have HK7 := Lib.hid (HK6.out.moved hm7 hbw); have HB7 := Lib.hid (HB6.out.trans (Moved.below hm7 HR6.out hz6))
      have hz7 := HB7.out.size
      have c7 := HK7.out.c1
      clear hr7 hm7 c6
      go_wp2_with fail
      refine (wr32_at w1.heap.size w1.heap.size _ X rfl w7 _ _ (by omega) HR7.out hz7 (by rw [List.length_append, List.length_append, List.length_append, be_length, be_length, List.length_drop]; show _ + _ + _ + (p.size - n) + 8 ≤ _; omega)).mono ?_
      rintro e w8 ⟨rfl, hh⟩
      obtain ⟨v8, hr8, hm8⟩ := hh
      have HR8 := Lib.hid hr8; have HK8 := Lib.hid (HK7.out.moved hm8 hbw); have HB8 := Lib.hid (HB7.out.trans (Moved.below hm8 HR7.out hz7))
      have c8 := HK8.out.c0
      clear hr8 hm8 c7
      go_wp2
      go_roundw
      case rel => exact ⟨k + 1, v8, by omega, by go_num, by rw [HLS.out], by rw [HN.out, HE1.out]; simpa [List.append_assoc] using HR8.out, HB8.out⟩
      case measure => simp [intOf]; omega
    · have hkl : k = l.length := by omega
      go_wp2_with (go_at_call 77; refine (bytes_any _ _ wr v _ HR.out).mono ?_; rintro e wz ⟨rfl, rfl⟩)
      go_ret2
      exact ⟨by rw [← hkl]; rfl, bl_trans HB.out HBk.out⟩
end Go.Proofs.YtbhfbdcmamodcaaGreatDoor
