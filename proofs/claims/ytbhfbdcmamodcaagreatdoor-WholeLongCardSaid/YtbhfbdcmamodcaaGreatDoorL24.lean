/- Walks of layer 7: the bytes of a frame, in the program and in the document's answer; The whole: writers with their footprints; The whole: the bytes of a chain; The whole: the chain of bytes. -/
import Derived.Test.YtbhfbdcmamodcaaGreatDoorL01
import Derived.Test.YtbhfbdcmamodcaaGreatDoorL11
import Derived.Test.YtbhfbdcmamodcaaGreatDoorL12
import Derived.Test.YtbhfbdcmamodcaaGreatDoorL23
import Derived.Test.YtbhfbdcmamodcaaGreatDoorL04
import Derived.Test.YtbhfbdcmamodcaaGreatDoorL05
import Derived.Deep.RegionHeld3
set_option linter.unusedVariables false
set_option linter.unusedSimpArgs false
namespace Go.Proofs.YtbhfbdcmamodcaaGreatDoor
open Go.RowKit PackMath SumMath FrMath
theorem wU32_at (B p : Nat) (x : Int) (k : Nat) (hx : x = k) (w : World) (v : Value) (bs : List UInt8) (hk : k < 4294967296) (h : IsWr B w p v bs) (hB : B ≤ w.heap.size) (hl : bs.length + 8 ≤ 140737488355328) :
    Calls Tryz.prog 76 #[.pointer (some ⟨p, 0, none⟩), .int .u32 x] w fun e w' => e = .returned (.tuple #[]) ∧ ∃ v', IsWr B w' p v' (bs ++ be k 4) ∧ Moved w w' p v v' := by
  subst hx
  exact u32_any B p k w v bs hk h hB hl
theorem wU8_at (B p : Nat) (x : Int) (k : Nat) (hx : x = k) (w : World) (v : Value) (bs : List UInt8) (hk : k < 256) (h : IsWr B w p v bs) (hB : B ≤ w.heap.size) (hl : bs.length + 8 ≤ 140737488355328) :
    Calls Tryz.prog 74 #[.pointer (some ⟨p, 0, none⟩), .int .u8 x] w fun e w' => e = .returned (.tuple #[]) ∧ ∃ v', IsWr B w' p v' (bs ++ be k 1) ∧ Moved w w' p v v' := by
  subst hx
  exact u8_any B p k w v bs hk h hB hl
theorem flat_one (S : ByteArray) : flat [S] = S.data.toList := by simp [flat]
theorem sumOne (S : ByteArray) (hs : S.size ≤ maxLen) (w : World) :
    Calls Tryz.prog 90 #[.slice (some ⟨w.heap.size, 0, none⟩) 1 1] (w.alloc (.cells #[.string S] 9)) fun e w' => e = .returned (.int .u32 (crc S.data.toList)) ∧ Below w.heap.size w w' := by
  have := sum_at (some ⟨w.heap.size, 0, none⟩) 1 1 [S] rfl (by decide) _ (strs_new w 9 [S] (by simpa using hs) _ rfl)
  rw [flat_one] at this
  exact this.mono fun e w' ⟨h1, h2⟩ => ⟨h1, bl_trans (bl_alloc (Below.refl _ _) _) h2⟩
theorem wr_box (w : World) (o : Obj) : IsWr (w.heap.size + 1) ((w.alloc o).alloc (.cells #[.slice none 0 0] 235)) (w.heap.size + 1) (.slice none 0 0) [] := by
  have := wr_new (w.alloc o)
  rwa [show (w.alloc o).heap.size = w.heap.size + 1 by simp] at this
section
variable (w : World)
theorem fEncode_kind (k : Int) (body : ByteArray) (hk : k < 1 ∨ 255 < k) :
    Calls Tryz.prog 78 #[.agg #[.int .i64 k, .string body]] w fun e w' => e = .returned (.tuple #[.string ⟨#[]⟩, .int .i64 1]) ∧ Below w.heap.size w w' := by
  rcases hk with h | h
  · have hd : decide (k < 1) = true := by simpa using h
    go_enter Tryz.func78, Tryz.ntmps78
    go_wp2
    go_ret2
    exact ⟨rfl, bl_alloc (Below.refl _ _) _⟩
  · have hd : decide (k < 1) = false := by simp; omega
    have hd2 : decide (255 < k) = true := by simpa using h
    go_enter Tryz.func78, Tryz.ntmps78
    go_wp2
    go_ret2
    exact ⟨rfl, bl_alloc (Below.refl _ _) _⟩
theorem fEncode_long (k : Int) (body : ByteArray) (hk : ¬ (k < 1 ∨ 255 < k)) (hl : 1048576 < body.size) :
    Calls Tryz.prog 78 #[.agg #[.int .i64 k, .string body]] w fun e w' => e = .returned (.tuple #[.string ⟨#[]⟩, .int .i64 5]) ∧ Below w.heap.size w w' := by
  have hd : decide (k < 1) = false := by simp; omega
  have hd2 : decide (255 < k) = false := by simp; omega
  have hd3 : decide ((1048576 : Int) < (body.size : Int)) = true := by simp; omega
  clear hk
  go_enter Tryz.func78, Tryz.ntmps78
  go_wp2
  go_ret2
  exact ⟨rfl, bl_alloc (Below.refl _ _) _⟩
set_option maxHeartbeats 800000 in
set_option maxRecDepth 100000 in
theorem fEncode_ok (K : Nat) (body : ByteArray) (hK : 1 ≤ K) (hK2 : K ≤ 255) (hl : body.size ≤ 1048576) :
    Calls Tryz.prog 78 #[.agg #[.int .i64 K, .string body]] w fun e w' => e = .returned (.tuple #[.string ⟨(encF K body).toArray⟩, .int .i64 0]) ∧ Below w.heap.size w w' := by
  have hd : decide ((K : Int) < 1) = false := by simp; omega
  have hd2 : decide ((255 : Int) < (K : Int)) = false := by simp; omega
  have hd3 : decide ((1048576 : Int) < (body.size : Int)) = false := by simp; omega
  have hw1 : IntKind.u8.wrap (K : Int) = (K : Int) := IntWalk.u8_in _ (by omega)
  have hw2 : IntKind.u32.wrap (body.size : Int) = (body.size : Int) := IntWalk.u32_in _ (by omega)
  have hhl := headF_len K body
  obtain ⟨S, hSd⟩ : ∃ S : ByteArray, S = ⟨(headF K body).toArray⟩ := ⟨_, rfl⟩
  have hSl : S.data.toList = headF K body := by rw [hSd]
  have hSz : S.size = body.size + 5 := by
    have : S.data.toList.length = S.size := by simp
    rw [← this, hSl, hhl]
  have HSM := Lib.hid (fun W => sumOne S (by unfold maxLen; omega) W)
  rw [hSl] at HSM
  have hcl := crc_lt (headF K body)
  have HSD := Lib.hid hSd
  have HHL := Lib.hid hhl
  clear hhl hSd hSl hSz
  go_enter Tryz.func78, Tryz.ntmps78
  go_wp2_with (go_at_call 71; refine (new_any _).mono ?_; rintro e w2 ⟨rfl, hw2⟩; have H0 := Lib.hid (wr_box w (.cells #[.int .i64 K, .string body] 141)); rw [← hw2] at H0; have hb2 : Below (w.heap.size + 1) (w.alloc (.cells #[.int .i64 K, .string body] 141)) w2 := (by rw [hw2]; exact Below.alloc (Below.refl _ _) (by simp) _); have hbw : Below w.heap.size w w2 := (by rw [hw2]; exact bl_alloc (bl_alloc (Below.refl _ _) _) _); have HB2 := Lib.hid hbw; have HL2 := Lib.hid (show w.heap.size + 1 ≤ w2.heap.size by rw [hw2]; simp); have c0 : w2.cell? ⟨w.heap.size, 0, none⟩ = some (.int .i64 K) := (hb2.cell (p := ⟨w.heap.size, 0, none⟩) (Nat.lt_succ_self _)).trans (by rw [World.cell?_alloc_mark]; rfl); have c1 : w2.cell? ⟨w.heap.size, 1, none⟩ = some (.string body) := (hb2.cell (p := ⟨w.heap.size, 1, none⟩) (Nat.lt_succ_self _)).trans (by rw [World.cell?_alloc_mark]; rfl); clear hw2 hb2 hbw)
  go_wp2_with (go_at_call 74; refine (wU8_at (w.heap.size + 1) (w.heap.size + 1) _ K rfl w2 _ _ (by omega) H0.out HL2.out (by decide)).mono ?_; rintro e w3 ⟨rfl, hh⟩; obtain ⟨v3, hr3, hm3⟩ := hh; rw [List.nil_append] at hr3; have HR3 := Lib.hid hr3; have hb3 := Moved.below hm3 H0.out HL2.out; have HB3 := Lib.hid hb3; have d0 := (hb3.cell (p := ⟨w.heap.size, 0, none⟩) (Nat.lt_succ_self _)).trans c0; have d1 := (hb3.cell (p := ⟨w.heap.size, 1, none⟩) (Nat.lt_succ_self _)).trans c1; clear hr3 hm3 hb3)
  go_wp2_with (go_at_call 76; refine (wU32_at (w.heap.size + 1) (w.heap.size + 1) _ body.size rfl w3 _ _ (by omega) HR3.out (Nat.le_trans HL2.out HB3.out.size) (by rw [be_length]; decide)).mono ?_; rintro e w4 ⟨rfl, hh⟩; obtain ⟨v4, hr4, hm4⟩ := hh; have HR4 := Lib.hid hr4; have hb4 := HB3.out.trans (Moved.below hm4 HR3.out (Nat.le_trans HL2.out HB3.out.size)); have HB4 := Lib.hid hb4; have e0 := (hb4.cell (p := ⟨w.heap.size, 0, none⟩) (Nat.lt_succ_self _)).trans c0; have e1 := (hb4.cell (p := ⟨w.heap.size, 1, none⟩) (Nat.lt_succ_self _)).trans c1; clear hr4 hm4 hb4)
  go_wp2_with (go_at_call 75; refine (raw_any (w.heap.size + 1) (w.heap.size + 1) body w4 v4 _ HR4.out (Nat.le_trans HL2.out HB4.out.size) (by rw [List.length_append, be_length, be_length]; omega)).mono ?_; rintro e w5 ⟨rfl, hh⟩; obtain ⟨v5, hr5, hm5⟩ := hh; have HR5 := Lib.hid (show IsWr (w.heap.size + 1) w5 (w.heap.size + 1) v5 (headF K body) from hr5); have HB5 := Lib.hid (HB4.out.trans (Moved.below hm5 HR4.out (Nat.le_trans HL2.out HB4.out.size))); clear hr5 hm5 c0 c1 d0 d1 e0 e1)
  go_wp2_with (first
    | (go_at_call 77; (with_reducible refine (bytes_any (w.heap.size + 1) (w.heap.size + 1) w5 v5 _ HR5.out).mono ?_); rintro e w6 ⟨rfl, rfl⟩; rw [← HSD.out])
    | (go_at_call 90; (with_reducible refine (HSM.out w5).mono ?_); rintro e w7 ⟨rfl, hb⟩; have HR7 := Lib.hid (HR5.out.below hb); have HB7 := Lib.hid (HB5.out.trans (hb.mono (Nat.le_trans HL2.out HB5.out.size))); clear hb))
  go_wp2_with (go_at_call 76; refine (wU32_at (w.heap.size + 1) (w.heap.size + 1) _ (crc (headF K body)) rfl w7 _ _ hcl HR7.out (Nat.le_trans HL2.out HB7.out.size) (by have := HHL.out; omega)).mono ?_; rintro e w8 ⟨rfl, hh⟩; obtain ⟨v8, hr8, hm8⟩ := hh; have HR8 := Lib.hid (show IsWr (w.heap.size + 1) w8 (w.heap.size + 1) v8 (encF K body) from hr8); have HB8 := Lib.hid (HB7.out.trans (Moved.below hm8 HR7.out (Nat.le_trans HL2.out HB7.out.size))); clear hr8 hm8)
  go_wp2_with (go_at_call 77; (with_reducible refine (bytes_any (w.heap.size + 1) (w.heap.size + 1) w8 v8 _ HR8.out).mono ?_); rintro e w9 ⟨rfl, rfl⟩)
  go_ret2
  exact ⟨rfl, HB2.out.trans (HB8.out.mono (Nat.le_succ _))⟩
theorem fEncode (k : Int) (body : ByteArray) :
    Calls Tryz.prog 78 #[.agg #[.int .i64 k, .string body]] w fun e w' => e = .returned (.tuple #[.string (frS k body), .int .i64 (frE k body)]) ∧ Below w.heap.size w w' := by
  by_cases hk : k < 1 ∨ 255 < k
  · rw [(fr_kind (body := body) hk).1, (fr_kind (body := body) hk).2]
    exact fEncode_kind w k body hk
  · by_cases hl : 1048576 < body.size
    · rw [(fr_long hk hl).1, (fr_long hk hl).2]
      exact fEncode_long w k body hk hl
    · rw [(fr_fine hk hl).1, (fr_fine hk hl).2]
      obtain ⟨K, rfl⟩ := Int.eq_ofNat_of_zero_le (show 0 ≤ k by omega)
      exact fEncode_ok w K body (by omega) (by omega) (by omega)
end
end Go.Proofs.YtbhfbdcmamodcaaGreatDoor
namespace Go.Proofs.YtbhfbdcmamodcaaGreatDoor
open Go.RowKit PackMath SumMath
def WrF (p : Nat) (v : Value) : Foot := fun k => k = p ∨ v.ownBlock = some k
theorem Moved.grew {B C : Nat} {w w' : World} {p : Nat} {v v' : Value} {bs cs : List UInt8} (h : Moved w w' p v v') (k : IsWr C w' p v' cs) : Grew (WrF p v) (WrF p v') w w' := by
  refine ⟨⟨h.os, h.tape, h.output, h.size, fun i hi hn => h.block i hi (fun e => hn (.inl e)) (fun e => hn (.inr e.symm))⟩, fun i hi => ?_, fun i hi => ?_⟩
  · rcases hi with rfl | hi
    · exact .inl (.inl rfl)
    · rcases h.lies with e | ⟨g, e, hg⟩
      · exact .inl (.inr (e.symm.trans hi))
      · rw [e] at hi; cases hi; exact .inr hg
  · rcases hi with rfl | hi
    · exact (Array.getElem?_eq_some_iff.1 k.cell).1
    · exact (k.own.lt i hi).2
def WR (w : World) (p : Nat) (bs : List UInt8) (F : Foot) : Prop := ∃ v, IsWr 0 w p v bs ∧ F = WrF p v
theorem WR.lt {w : World} {p : Nat} {bs : List UInt8} {F : Foot} (h : WR w p bs F) : ∀ k, F k → k < w.heap.size := by
  obtain ⟨v, h1, rfl⟩ := h
  intro i hi
  rcases hi with rfl | hi
  · exact (Array.getElem?_eq_some_iff.1 h1.cell).1
  · exact (h1.own.lt i hi).2
theorem WR.stays {w x : World} {p : Nat} {bs : List UInt8} {F : Foot} (h : WR w p bs F) (hs : Stays F w x) : WR x p bs F := by
  obtain ⟨v, h1, rfl⟩ := h
  exact ⟨v, ⟨h1.base, (hs.1 p (.inl rfl)).trans h1.cell, row_stays h1.own fun g e => hs.1 g (.inr e)⟩, rfl⟩
theorem WR.below {w x : World} {p : Nat} {bs : List UInt8} {F : Foot} (h : WR w p bs F) (hb : Below w.heap.size w x) : WR x p bs F := h.stays (Stays.of hb h.lt)
def Laid (p : Nat) (bs : List UInt8) (F : Foot) (w w' : World) : Prop := ∃ F', WR w' p bs F' ∧ Grew F F' w w'
theorem laid_of {w : World} {p : Nat} {v : Value} {e : Ending} {bs cs : List UInt8} {w' : World} (h : e = .returned (.tuple #[]) ∧ ∃ v', IsWr 0 w' p v' cs ∧ Moved w w' p v v') : e = .returned (.tuple #[]) ∧ Laid p cs (WrF p v) w w' := by
  obtain ⟨rfl, v', h1, h2⟩ := h
  exact ⟨rfl, _, ⟨v', h1, rfl⟩, h2.grew (B := 0) (bs := bs) h1⟩
section
variable {w : World} {p : Nat} {bs : List UInt8} {F : Foot}
theorem wrNew (w : World) : Calls Tryz.prog 71 #[] w fun e w' => e = .returned (.pointer (some ⟨w.heap.size, 0, none⟩)) ∧ (∃ F, WR w' w.heap.size [] F ∧ ∀ k, F k → w.heap.size ≤ k) ∧ Below w.heap.size w w' ∧ w'.heap.size = w.heap.size + 1 :=
  (new_any w).mono fun e w' ⟨h1, h2⟩ => by
    subst h2
    refine ⟨h1, ⟨_, ⟨_, ⟨Nat.zero_le _, (wr_new w).cell, World.ownsRow_nil _ _ _ _⟩, rfl⟩, fun k hk => ?_⟩, bl_alloc (Below.refl _ w) _, by simp⟩
    rcases hk with rfl | hk
    · exact Nat.le_refl _
    · simp [Value.ownBlock] at hk
theorem wrU8 (h : WR w p bs F) (x : Int) (k : Nat) (hx : x = k) (hk : k < 256) (hl : bs.length ≤ 1099511627776) :
    Calls Tryz.prog 74 #[.pointer (some ⟨p, 0, none⟩), .int .u8 x] w fun e w' => e = .returned (.tuple #[]) ∧ Laid p (bs ++ be k 1) F w w' := by
  obtain ⟨v, h1, rfl⟩ := h
  subst hx
  exact (u8_any 0 p k w v bs hk h1 (Nat.zero_le _) (by omega)).mono fun e w' h => laid_of (bs := bs) h
theorem wrU16 (h : WR w p bs F) (x : Int) (k : Nat) (hx : x = k) (hk : k < 65536) (hl : bs.length ≤ 1099511627776) :
    Calls Tryz.prog 72 #[.pointer (some ⟨p, 0, none⟩), .int .u16 x] w fun e w' => e = .returned (.tuple #[]) ∧ Laid p (bs ++ be k 2) F w w' := by
  obtain ⟨v, h1, rfl⟩ := h
  subst hx
  exact (u16_any 0 p k w v bs hk h1 (Nat.zero_le _) (by omega)).mono fun e w' h => laid_of (bs := bs) h
theorem wrU32 (h : WR w p bs F) (x : Int) (k : Nat) (hx : x = k) (hk : k < 4294967296) (hl : bs.length ≤ 1099511627776) :
    Calls Tryz.prog 76 #[.pointer (some ⟨p, 0, none⟩), .int .u32 x] w fun e w' => e = .returned (.tuple #[]) ∧ Laid p (bs ++ be k 4) F w w' := by
  obtain ⟨v, h1, rfl⟩ := h
  subst hx
  exact (u32_any 0 p k w v bs hk h1 (Nat.zero_le _) (by omega)).mono fun e w' h => laid_of (bs := bs) h
theorem wrRaw (h : WR w p bs F) (s : ByteArray) (hl : bs.length + s.size ≤ 1099511627776) :
    Calls Tryz.prog 75 #[.pointer (some ⟨p, 0, none⟩), .string s] w fun e w' => e = .returned (.tuple #[]) ∧ Laid p (bs ++ s.data.toList) F w w' := by
  obtain ⟨v, h1, rfl⟩ := h
  exact (raw_any 0 p s w v bs h1 (Nat.zero_le _) (by omega)).mono fun e w' h => laid_of (bs := bs) h
theorem wrLen (h : WR w p bs F) : Calls Tryz.prog 146 #[.pointer (some ⟨p, 0, none⟩)] w fun e w' => e = .returned (.int .i64 (bs.length : Nat)) ∧ w = w' := by
  obtain ⟨v, h1, rfl⟩ := h
  exact len_any 0 p w v bs h1
theorem wrBytes (h : WR w p bs F) : Calls Tryz.prog 77 #[.pointer (some ⟨p, 0, none⟩)] w fun e w' => e = .returned (.string ⟨bs.toArray⟩) ∧ w = w' := by
  obtain ⟨v, h1, rfl⟩ := h
  exact bytes_any 0 p w v bs h1
end
structure WB (B : Nat) (w0 : World) (p : Nat) (w : World) (bs : List UInt8) : Prop where
  wr : ∃ F, WR w p bs F ∧ ∀ k, F k → B ≤ k
  bel : Below B w0 w
  ge : B ≤ w0.heap.size
section
variable {B : Nat} {w0 w : World} {p : Nat} {bs : List UInt8}
theorem WB.thenB {x : World} (h : WB B w0 p w bs) (hb : Below w.heap.size w x) : WB B w0 p x bs := by
  obtain ⟨⟨F, h1, h2⟩, h3, h4⟩ := h
  exact ⟨⟨F, h1.below hb, h2⟩, h3.trans (hb.mono (Nat.le_trans h4 h3.size)), h4⟩
theorem WB.step {w' : World} {cs : List UInt8} {F : Foot} (h : WB B w0 p w bs) (hF : ∀ k, F k → B ≤ k) (k : Laid p cs F w w') : WB B w0 p w' cs := by
  obtain ⟨G, k1, k2⟩ := k
  refine ⟨⟨G, k1, fun i hi => ?_⟩, h.bel.trans (k2.upd.below hF (Nat.le_trans h.ge h.bel.size)), h.ge⟩
  rcases k2.sub i hi with e | e
  · exact hF i e
  · exact Nat.le_trans (Nat.le_trans h.ge h.bel.size) e
theorem wbNew (w : World) (B : Nat) (w0 : World) (hb : Below B w0 w) (hB : B ≤ w0.heap.size) : Calls Tryz.prog 71 #[] w fun e w' => e = .returned (.pointer (some ⟨w.heap.size, 0, none⟩)) ∧ WB B w0 w.heap.size w' [] ∧ Below w.heap.size w w' :=
  (wrNew w).mono fun e w' ⟨h1, ⟨F, h2, h3⟩, h4, _⟩ => ⟨h1, ⟨⟨F, h2, fun k hk => Nat.le_trans (Nat.le_trans hB hb.size) (h3 k hk)⟩, hb.trans (h4.mono (Nat.le_trans hB hb.size)), hB⟩, h4⟩
theorem wbU8 (h : WB B w0 p w bs) (x : Int) (k : Nat) (hx : x = k) (hk : k < 256) (hl : bs.length ≤ 1099511627776) :
    Calls Tryz.prog 74 #[.pointer (some ⟨p, 0, none⟩), .int .u8 x] w fun e w' => e = .returned (.tuple #[]) ∧ WB B w0 p w' (bs ++ be k 1) := by
  obtain ⟨F, h1, h2⟩ := h.wr
  exact (wrU8 h1 x k hx hk hl).mono fun e w' ⟨k1, k2⟩ => ⟨k1, h.step h2 k2⟩
theorem wbU32 (h : WB B w0 p w bs) (x : Int) (k : Nat) (hx : x = k) (hk : k < 4294967296) (hl : bs.length ≤ 1099511627776) :
    Calls Tryz.prog 76 #[.pointer (some ⟨p, 0, none⟩), .int .u32 x] w fun e w' => e = .returned (.tuple #[]) ∧ WB B w0 p w' (bs ++ be k 4) := by
  obtain ⟨F, h1, h2⟩ := h.wr
  exact (wrU32 h1 x k hx hk hl).mono fun e w' ⟨k1, k2⟩ => ⟨k1, h.step h2 k2⟩
theorem wbRaw (h : WB B w0 p w bs) (s : ByteArray) (hl : bs.length + s.size ≤ 1099511627776) :
    Calls Tryz.prog 75 #[.pointer (some ⟨p, 0, none⟩), .string s] w fun e w' => e = .returned (.tuple #[]) ∧ WB B w0 p w' (bs ++ s.data.toList) := by
  obtain ⟨F, h1, h2⟩ := h.wr
  exact (wrRaw h1 s hl).mono fun e w' ⟨k1, k2⟩ => ⟨k1, h.step h2 k2⟩
theorem wbBytes (h : WB B w0 p w bs) : Calls Tryz.prog 77 #[.pointer (some ⟨p, 0, none⟩)] w fun e w' => e = .returned (.string ⟨bs.toArray⟩) ∧ w = w' := by
  obtain ⟨F, h1, h2⟩ := h.wr
  exact wrBytes h1
end
def WG (F : Foot) (w0 : World) (p : Nat) (w : World) (bs : List UInt8) : Prop := ∃ F', WR w p bs F' ∧ Grew F F' w0 w
theorem WR.start {w : World} {p : Nat} {bs : List UInt8} {F : Foot} (h : WR w p bs F) : WG F w p w bs := ⟨F, h, Grew.refl h.lt⟩
section
variable {F : Foot} {w0 w : World} {p : Nat} {bs : List UInt8}
theorem WG.thenB {x : World} (h : WG F w0 p w bs) (hb : Below w.heap.size w x) : WG F w0 p x bs := by
  obtain ⟨F', h1, h2⟩ := h
  exact ⟨F', h1.below hb, h2.thenB hb⟩
theorem WG.step {w' : World} {cs : List UInt8} {G : Foot} (h : Grew F G w0 w) (k : Laid p cs G w w') : WG F w0 p w' cs := by
  obtain ⟨H, k1, k2⟩ := k
  exact ⟨H, k1, h.trans k2⟩
theorem WG.cell (h : WG F w0 p w bs) {b o : Nat} {v : Value} (hb : ¬ F b) (hc : w0.cell? ⟨b, o, none⟩ = some v) : w.cell? ⟨b, o, none⟩ = some v := by
  obtain ⟨F', _, h2⟩ := h
  rw [World.cell?_of_block (h2.upd.block b (World.block_lt_of_cell? w0 _ hc) hb)]
  exact hc
theorem wgU8 (h : WG F w0 p w bs) (x : Int) (k : Nat) (hx : x = k) (hk : k < 256) (hl : bs.length ≤ 1099511627776) :
    Calls Tryz.prog 74 #[.pointer (some ⟨p, 0, none⟩), .int .u8 x] w fun e w' => e = .returned (.tuple #[]) ∧ WG F w0 p w' (bs ++ be k 1) := by
  obtain ⟨G, h1, h2⟩ := h
  exact (wrU8 h1 x k hx hk hl).mono fun e w' ⟨k1, k2⟩ => ⟨k1, WG.step h2 k2⟩
theorem wgU16 (h : WG F w0 p w bs) (x : Int) (k : Nat) (hx : x = k) (hk : k < 65536) (hl : bs.length ≤ 1099511627776) :
    Calls Tryz.prog 72 #[.pointer (some ⟨p, 0, none⟩), .int .u16 x] w fun e w' => e = .returned (.tuple #[]) ∧ WG F w0 p w' (bs ++ be k 2) := by
  obtain ⟨G, h1, h2⟩ := h
  exact (wrU16 h1 x k hx hk hl).mono fun e w' ⟨k1, k2⟩ => ⟨k1, WG.step h2 k2⟩
theorem wgU32 (h : WG F w0 p w bs) (x : Int) (k : Nat) (hx : x = k) (hk : k < 4294967296) (hl : bs.length ≤ 1099511627776) :
    Calls Tryz.prog 76 #[.pointer (some ⟨p, 0, none⟩), .int .u32 x] w fun e w' => e = .returned (.tuple #[]) ∧ WG F w0 p w' (bs ++ be k 4) := by
  obtain ⟨G, h1, h2⟩ := h
  exact (wrU32 h1 x k hx hk hl).mono fun e w' ⟨k1, k2⟩ => ⟨k1, WG.step h2 k2⟩
end
theorem WB.opens {B : Nat} {w0 w : World} {p : Nat} {bs : List UInt8} (h : WB B w0 p w bs) :
    ∃ F, WR w p bs F ∧ (∀ k, F k → k < w.heap.size) ∧ ∀ x w' cs, Below w.heap.size w x → WG F x p w' cs → WB B w0 p w' cs := by
  obtain ⟨F, h1, h2⟩ := h.wr
  refine ⟨F, h1, h1.lt, fun x w' cs hb k => ?_⟩
  obtain ⟨G, k1, k2⟩ := k
  have hs := hb.size
  have hz := h.bel.size
  have hg := h.ge
  refine ⟨⟨G, k1, fun i hi => ?_⟩, (h.bel.trans (hb.mono (by omega))).trans (k2.upd.below h2 (by omega)), hg⟩
  rcases k2.sub i hi with e | e
  · exact h2 i e
  · omega
end Go.Proofs.YtbhfbdcmamodcaaGreatDoor
namespace Go.Proofs.YtbhfbdcmamodcaaGreatDoor
open Go.RowKit PackMath SumMath
def linkB (x : Link) : List UInt8 := be x.1 4 ++ be x.2.1 4 ++ be x.2.2 4
def chainH (l : List Link) : List UInt8 := [80, 68, 71, 77, 1] ++ be l.length 1 ++ l.flatMap linkB
def chainB (l : List Link) : List UInt8 := chainH l ++ be (crc (chainH l)) 4
theorem linkB_len (l : List Link) : (l.flatMap linkB).length = 12 * l.length := by
  induction l with
  | nil => rfl
  | cons x r ih => rw [List.flatMap_cons, List.length_append, ih]; simp [linkB, be_length]; omega
theorem chainH_len (l : List Link) : (chainH l).length = 6 + 12 * l.length := by
  unfold chainH
  rw [List.length_append, List.length_append, linkB_len, be_length]; simp
theorem chainB_len (l : List Link) : (chainB l).length = 10 + 12 * l.length := by
  unfold chainB
  rw [List.length_append, chainH_len, be_length]; omega
theorem link_take {l : List Link} {k : Nat} (h : k < l.length) : (l.take (k + 1)).flatMap linkB = (l.take k).flatMap linkB ++ linkB l[k] := by
  rw [List.take_succ_eq_append_getElem h, List.flatMap_append]; simp
set_option maxHeartbeats 4000000 in
set_option maxRecDepth 100000 in
theorem lcEncode (l : List Link) (hg : GoodChain l) (a : Option Addr) (c : Nat) (hlc : l.length ≤ c) (hcm : c ≤ maxLen) (w : World) (h : CellsAt w a (l.flatMap linkV)) :
    Calls Tryz.prog 91 #[.slice a l.length c] w fun e w' => e = .returned (.tuple #[.string ⟨(chainB l).toArray⟩, .int .i64 0]) ∧ Below w.heap.size w w' := by
  have HC := Lib.hid (fun W hW => lcCheck l hg a c hlc hcm W hW)
  have hln := hg.len
  have hw1 : IntKind.u8.wrap (l.length : Int) = (l.length : Int) := IntWalk.u8_in _ (by omega)
  have HA := Lib.hid h
  have HG := Lib.hid hg
  obtain ⟨S, hSd⟩ : ∃ S : ByteArray, S = ⟨(chainH l).toArray⟩ := ⟨_, rfl⟩
  have hSl : S.data.toList = chainH l := by rw [hSd]
  have hSz : S.size = 6 + 12 * l.length := by
    have : S.data.toList.length = S.size := by simp
    rw [← this, hSl, chainH_len]
  have HSM := Lib.hid (fun W => sumOne S (by unfold maxLen; omega) W)
  rw [hSl] at HSM
  have hcl := crc_lt (chainH l)
  have HSD := Lib.hid hSd
  have HHL := Lib.hid (chainH_len l)
  clear h hg hSd hSl hSz
  go_enter Tryz.func91, Tryz.ntmps91
  go_wp2_with (go_at_call 136; (with_reducible refine (HC.out w HA.out).mono ?_); rintro e w1 ⟨rfl, hb⟩; have HB1 := Lib.hid hb; clear hb)
  go_wp2_with (go_at_call 71; (with_reducible refine (wbNew w1 w.heap.size w HB1.out (Nat.le_refl _)).mono ?_); rintro e w2 ⟨rfl, hh, hb⟩; have H2 := Lib.hid hh; have HB2 := Lib.hid hb; clear hh hb)
  go_wp2_with (go_at_call 75; (with_reducible refine (wbRaw H2.out _ (by decide)).mono ?_); rintro e w3 ⟨rfl, hh⟩; have H3 := Lib.hid (show WB w.heap.size w w1.heap.size w3 [80, 68, 71, 77, 1] from hh); clear hh)
  go_wp2_with (go_at_call 74; (with_reducible refine (wbU8 H3.out _ l.length rfl (by omega) (by decide)).mono ?_); rintro e w4 ⟨rfl, hh⟩; have H4 := Lib.hid hh; clear hh)
  go_loopw [23] (fun i wr => ∃ k : Nat, k ≤ l.length ∧ i = .int .i64 k ∧ WB w.heap.size w w1.heap.size wr ([80, 68, 71, 77, 1] ++ be l.length 1 ++ (l.take k).flatMap linkB)) (fun i _ => l.length - (intOf i).toNat)
  case atStart => exact ⟨0, Nat.zero_le _, rfl, by simpa using H4.out⟩
  case round =>
    obtain ⟨k, hk, rfl, hwb⟩ := hrel
    have HW := Lib.hid hwb
    clear hwb
    by_cases hlt : k < l.length
    · obtain ⟨b, off, rfl, _, p1, p2, p3⟩ := link_cells (HA.out.below HW.out.bel) hlt
      have hm := List.getElem_mem hlt
      have hnum := HG.out.num _ hm; have hc1 := (HG.out.cnt _ hm).2; have hc2 := HG.out.sum _ hm
      have HS := Lib.hid (link_take hlt)
      have hl0 : ([80, 68, 71, 77, 1] ++ be l.length 1 ++ (l.take k).flatMap linkB).length ≤ 1000 := by
        rw [List.length_append, List.length_append, linkB_len, be_length, List.length_take]; simp; omega
      obtain ⟨x, hx⟩ : ∃ x, l[k] = x := ⟨_, rfl⟩
      rw [hx] at p1 p2 p3 hnum hc1 hc2 HS
      obtain ⟨m, y, z⟩ := x
      simp only at p1 p2 p3 hnum hc1 hc2
      have hwm : IntKind.u32.wrap (m : Int) = (m : Int) := IntWalk.u32_in _ (by omega)
      have hwy : IntKind.u32.wrap (y : Int) = (y : Int) := IntWalk.u32_in _ (by omega)
      obtain ⟨pre, hpre⟩ : ∃ pre, [80, 68, 71, 77, 1] ++ be l.length 1 ++ (l.take k).flatMap linkB = pre := ⟨_, rfl⟩
      have HP := Lib.hid hpre
      rw [hpre] at HW hl0
      have HN := Lib.hid (show [80, 68, 71, 77, 1] ++ be l.length 1 ++ (l.take (k + 1)).flatMap linkB = pre ++ be m 4 ++ be y 4 ++ be z 4 by
        rw [HS.out, ← HP.out]; simp [linkB])
      obtain ⟨F, hF, hFl, hback⟩ := HW.out.opens
      obtain ⟨W1, hW1⟩ : ∃ W1, wr.alloc (.cells #[.int .i64 (m : Nat), .int .i64 (y : Nat), .int .u32 (z : Nat)] 149) = W1 := ⟨_, rfl⟩
      have q1 : W1.cell? ⟨wr.heap.size, 0, none⟩ = some (.int .i64 (m : Nat)) := by rw [← hW1, World.cell?_alloc_new]; rfl
      have q2 : W1.cell? ⟨wr.heap.size, 1, none⟩ = some (.int .i64 (y : Nat)) := by rw [← hW1, World.cell?_alloc_mark]; rfl
      have q3 : W1.cell? ⟨wr.heap.size, 2, none⟩ = some (.int .u32 (z : Nat)) := by rw [← hW1, World.cell?_alloc_mark]; rfl
      have hb1 : Below wr.heap.size wr W1 := by rw [← hW1]; exact bl_alloc (Below.refl _ wr) _
      have HG0 := Lib.hid (hF.below hb1).start
      have hnf : ¬ F wr.heap.size := fun e => absurd (hFl _ e) (Nat.lt_irrefl _)
      have HBK := Lib.hid (fun w' cs => hback W1 w' cs hb1)
      have HQ1 := Lib.hid q1; have HQ2 := Lib.hid q2; have HQ3 := Lib.hid q3
      have HNF := Lib.hid hnf
      have HW1 := Lib.hid hW1
      clear hx hpre hW1 hm HS hb1 hF hFl hback hnf
      go_wp2_with fail
      rw [HW1.out]
      go_wp2_with fail
      (with_reducible refine (wgU32 HG0.out _ m rfl (by omega) (by omega)).mono ?_)
      rintro e w5 ⟨rfl, hh⟩
      have H5 := Lib.hid hh
      have r1 := hh.cell HNF.out HQ1.out; have r2 := hh.cell HNF.out HQ2.out; have r3 := hh.cell HNF.out HQ3.out
      clear q1 q2 q3 hh p1 p2 p3
      go_wp2_with fail
      (with_reducible refine (wgU32 H5.out _ y rfl (by omega) (by rw [List.length_append, be_length]; omega)).mono ?_)
      rintro e w6 ⟨rfl, hh⟩
      have H6 := Lib.hid hh
      have s1 := hh.cell HNF.out HQ1.out; have s2 := hh.cell HNF.out HQ2.out; have s3 := hh.cell HNF.out HQ3.out
      clear r1 r2 r3 hh
      go_wp2_with fail
      (with_reducible refine (wgU32 H6.out _ z rfl (by omega) (by rw [List.length_append, List.length_append, be_length, be_length]; omega)).mono ?_)
      rintro e w7 ⟨rfl, hh⟩
      have H7 := Lib.hid (HBK.out _ _ hh)
      clear s1 s2 s3 hh
      go_wp2
      go_roundw
      case rel => exact ⟨k + 1, by omega, by go_num, by rw [HN.out]; exact H7.out⟩
      case measure => simp [intOf]; omega
    · have HW5 := Lib.hid (show WB w.heap.size w w1.heap.size wr (chainH l) by have := HW.out; rw [List.take_of_length_le (by omega)] at this; exact this)
      go_wp2_with (first
        | (go_at_call 77; (with_reducible refine (wbBytes HW5.out).mono ?_); rintro e w6 ⟨rfl, rfl⟩; rw [← HSD.out])
        | (go_at_call 90; (with_reducible refine (HSM.out wr).mono ?_); rintro e w7 ⟨rfl, hb⟩; have H7 := Lib.hid (HW5.out.thenB hb); clear hb))
      go_wp2_with (go_at_call 76; (with_reducible refine (wbU32 H7.out _ (crc (chainH l)) rfl hcl (by have := HHL.out; omega)).mono ?_); rintro e w8 ⟨rfl, hh⟩; have H8 := Lib.hid (show WB w.heap.size w w1.heap.size w8 (chainB l) from hh); clear hh)
      go_wp2_with (go_at_call 77; (with_reducible refine (wbBytes H8.out).mono ?_); rintro e w9 ⟨rfl, rfl⟩)
      go_ret2
      exact ⟨rfl, H8.out.bel⟩
end Go.Proofs.YtbhfbdcmamodcaaGreatDoor
namespace Go.Proofs.YtbhfbdcmamodcaaGreatDoor
open Go.RowKit PackMath SumMath
theorem infoLink : (Tryz.prog.info? 149).map (fun i => (i.zero, i.size, i.bytes)) = some (some (.agg #[.int .i64 0, .int .i64 0, .int .u32 0]), 3, 24) := by kernel_rfl
end Go.Proofs.YtbhfbdcmamodcaaGreatDoor
