/- Walk of the law CommitBack. -/
import Derived.Test.YtmmabkppadokkaaCmW8
import Derived.Test.YtmmabkppadokkaaCmL2
import Derived.Test.YtmmabkppadokkaaCmMath3
set_option linter.unusedVariables false
set_option linter.unusedSimpArgs false
namespace Go.Proofs.Ytmmabkppadokkaa
open Go.RowKit PackMath

theorem duo_box {w : World} {p : Nat} {a : Option Addr} {zs : List Int} {c : Nat} {t : Int} {b : Option Addr} {ys : List Int} {d : Nat} {u : Int} (h0 : w.cell? ⟨p, 0, none⟩ = some (.slice a zs.length c)) (h1 : w.cell? ⟨p, 1, none⟩ = some (.int .i64 t)) (ha : Com w a zs c) (hb : Com w b ys d) :
    Duo (w.alloc (.cells #[.slice b ys.length d, .int .i64 u] 24)) p w.heap.size a zs c t b ys d u := by
  have k := bl_alloc (Below.refl _ w) (.cells #[.slice b ys.length d, .int .i64 u] 24)
  exact ⟨bl_cell k h0, bl_cell k h1, by rw [World.cell?_alloc_mark]; rfl, by rw [World.cell?_alloc_mark]; rfl, ha.alloc _, hb.alloc _⟩
theorem ba_eq {S s : ByteArray} (h : S.data.toList = s.data.toList) : S = s := by
  cases S; cases s; simp only [ByteArray.mk.injEq]; exact Array.toList_inj.1 h
/-- The text's own half: told as it stood. -/
theorem enc_told {s : ByteArray} {t : Nat} {zs : List Int} (h : decR s = (0, (t, zs))) (w : World) (a : Option Addr) (cap : Nat) (hc : Com w a zs cap) :
    Calls Try.prog 9 #[.agg #[.slice a zs.length cap, .int .i64 t]] w fun e w' => e = .returned (.tuple #[.string s, .int .i64 0]) ∧ Below w.heap.size w w' := by
  obtain ⟨h1, h2⟩ := dec_back h
  have := cEncode_ok w t zs a cap hc.le hc.max hc.ints h1
  rw [ba_eq (S := ⟨(encC t zs).toArray⟩) (s := s) (by rw [← h2])] at this
  exact this

set_option maxHeartbeats 1000000 in
set_option maxRecDepth 100000 in
theorem back_bad_fail (w : World) (t : Int) (zs : List Int) (a : Option Addr) (cap : Nat) (h : Com w a zs cap) (hsm : cap + 2 ≤ 17592186044416) (s : ByteArray) (hs : s.size < 281474976710656) (hc : checkR t zs ≠ 0) (E : Nat) (hD : decR s = (E, (0, []))) (hE : E ≠ 0) :
    Calls Try.prog 6 #[.agg #[.slice a zs.length cap, .int .i64 t], .string s] w fun e w' => e = .returned (.bool true) ∧ Below w.heap.size w w' := by
  have HA := Lib.hid h
  have HX := Lib.hid (fun w => decEx_of hD (cDecode s hs w))
  have hed : ((E : Int) != 0) = true := by simp; omega
  clear h hD hE
  have hcd : (((checkR t zs : Nat) : Int) == 0) = false := by simp; omega
  clear hc
  go_enter Try.func6, Try.ntmps6
  go_wp2_with (go_at_call 7; refine (cTells _).mono ?_; rintro e w1 ⟨rfl, hb⟩; have HB1 := Lib.hid (bl_trans (bl_alloc (Below.refl _ w) _) hb); have HA1 := Lib.hid ((HA.out.alloc _).below hb); have c0 := bl_cell hb (b := w.heap.size) (o := 0) (v := .slice a zs.length cap) (by rw [World.cell?_alloc_mark]; rfl); have c1 := bl_cell hb (b := w.heap.size) (o := 1) (v := .int .i64 t) (by rw [World.cell?_alloc_mark]; rfl); clear hb)
  go_wp2_with (go_at_call 9; refine (cEncode _ t zs a cap HA1.out).mono ?_; rintro r wz ⟨rfl, hb⟩; have HBz := Lib.hid (bl_trans HB1.out hb); clear hb c0 c1)
  go_wp2_with (go_at_call 17; (with_reducible refine (HX.out wz).mono ?_); rintro r wy ⟨xa, xp, rfl, ho, hc, hb⟩; have HBy := Lib.hid (bl_trans HBz.out hb); clear ho hc hb)
  go_ret
  exact ⟨rfl, bl_alloc HBy.out _⟩

set_option maxHeartbeats 1000000 in
set_option maxRecDepth 100000 in
theorem back_bad_fine (w : World) (t : Int) (zs : List Int) (a : Option Addr) (cap : Nat) (h : Com w a zs cap) (hsm : cap + 2 ≤ 17592186044416) (s : ByteArray) (hs : s.size < 281474976710656) (hc : checkR t zs ≠ 0) (u : Nat) (ys : List Int) (hD : decR s = (0, (u, ys))) :
    Calls Try.prog 6 #[.agg #[.slice a zs.length cap, .int .i64 t], .string s] w fun e w' => e = .returned (.bool true) ∧ Below w.heap.size w w' := by
  have HA := Lib.hid h
  have HX := Lib.hid (fun w => decEx_of hD (cDecode s hs w))
  have HEN := Lib.hid (fun w a cap (k : Com w a ys cap) => enc_told hD w a cap k)
  clear h hD
  have hcd : (((checkR t zs : Nat) : Int) == 0) = false := by simp; omega
  clear hc
  go_enter Try.func6, Try.ntmps6
  go_wp2_with (go_at_call 7; refine (cTells _).mono ?_; rintro e w1 ⟨rfl, hb⟩; have HB1 := Lib.hid (bl_trans (bl_alloc (Below.refl _ w) _) hb); have HA1 := Lib.hid ((HA.out.alloc _).below hb); have c0 := bl_cell hb (b := w.heap.size) (o := 0) (v := .slice a zs.length cap) (by rw [World.cell?_alloc_mark]; rfl); have c1 := bl_cell hb (b := w.heap.size) (o := 1) (v := .int .i64 t) (by rw [World.cell?_alloc_mark]; rfl); clear hb)
  go_wp2_with (go_at_call 9; refine (cEncode _ t zs a cap HA1.out).mono ?_; rintro r wz ⟨rfl, hb⟩; have HBz := Lib.hid (bl_trans HB1.out hb); clear hb c0 c1)
  go_wp2_with (go_at_call 17; (with_reducible refine (HX.out wz).mono ?_); rintro r wy ⟨xa, xp, rfl, ho, hc, hb⟩; have HXC := Lib.hid hc; have HBy := Lib.hid (bl_trans HBz.out hb); clear ho hc hb)
  go_wp2_with (go_at_call 9; refine (HEN.out _ xa xp (HXC.out.alloc _)).mono ?_; rintro r wv ⟨rfl, hb⟩; have HBv := Lib.hid (bl_trans (bl_alloc HBy.out _) hb); clear hb)
  go_ret
  exact ⟨rfl, HBv.out⟩

set_option maxHeartbeats 1000000 in
set_option maxRecDepth 100000 in
theorem back_ok_fail (w : World) (t : Int) (zs : List Int) (a : Option Addr) (cap : Nat) (h : Com w a zs cap) (hsm : cap + 2 ≤ 17592186044416) (s : ByteArray) (hs : s.size < 281474976710656) (hc : checkR t zs = 0) (E : Nat) (hD : decR s = (E, (0, []))) (hE : E ≠ 0) :
    Calls Try.prog 6 #[.agg #[.slice a zs.length cap, .int .i64 t], .string s] w fun e w' => e = .returned (.bool true) ∧ Below w.heap.size w w' := by
  have HA := Lib.hid h
  have HX := Lib.hid (fun w => decEx_of hD (cDecode s hs w))
  have hed : ((E : Int) != 0) = true := by simp; omega
  clear h hD hE
  obtain ⟨h16, hin, _⟩ := check_ok hc
  have hin' := inn_yes hin
  obtain ⟨T, rfl⟩ := Int.eq_ofNat_of_zero_le hin'.1
  obtain ⟨S, hSd⟩ : ∃ S : ByteArray, S = ⟨(encC T zs).toArray⟩ := ⟨_, rfl⟩
  have hSl : S.data.toList = encC T zs := by rw [hSd]
  have hSz : S.size = 5 + 4 * zs.length := by rw [← size_list, hSl, encC_len]
  have D1 := dec_enc hc hSl
  have D2 : decR (S.extract 0 (S.size - 1)) = (2, (0, [])) := dec_less hc (by rw [extract_list, List.drop_zero, hSl, hSz, encC_len]; rfl)
  have D3 : decR (S ++ ⟨#[0]⟩) = (3, (0, [])) := dec_more hc (by rw [ByteArray.data_append, Array.toList_append, hSl])
  rw [Int.toNat_natCast] at D1
  have hs1 : S.size < 281474976710656 := by omega
  have hs2 : (S.extract 0 (S.size - 1)).size < 281474976710656 := by rw [ByteArray.size_extract]; omega
  have hs3 : (S ++ ⟨#[0]⟩).size < 281474976710656 := by rw [ByteArray.size_append]; show S.size + 1 < _; omega
  have HD1 := Lib.hid (fun w => decEx_of D1 (cDecode S hs1 w))
  have HD2 := Lib.hid (fun w => decEx_of D2 (cDecode _ hs2 w))
  have HD3 := Lib.hid (fun w => decEx_of D3 (cDecode _ hs3 w))
  have HEC := Lib.hid (fun w a cap (h : Com w a zs cap) => cEncode_ok w T zs a cap h.le h.max h.ints hc)
  rw [← hSd] at HEC
  have HCK := Lib.hid (cCheck_ex hc)
  have HSM := Lib.hid (sameB_self (t := (T : Int)) (zs := zs))
  have hs5 : 5 ≤ S.size := by omega
  have hs6 : S.size ≤ 69 := by omega
  clear hc hin hin' hSd hSl hSz D1 D2 D3 hs1 hs2 hs3
  go_enter Try.func6, Try.ntmps6
  go_wp2_with (go_at_call 7; refine (cTells _).mono ?_; rintro e w1 ⟨rfl, hb⟩; have HB1 := Lib.hid (bl_trans (bl_alloc (Below.refl _ w) _) hb); have HA1 := Lib.hid ((HA.out.alloc _).below hb); have c0 := bl_cell hb (b := w.heap.size) (o := 0) (v := .slice a zs.length cap) (by rw [World.cell?_alloc_mark]; rfl); have c1 := bl_cell hb (b := w.heap.size) (o := 1) (v := .int .i64 T) (by rw [World.cell?_alloc_mark]; rfl); clear hb)
  go_wp2_with (go_at_call 9; refine (HEC.out _ a cap HA1.out).mono ?_; rintro r w2 ⟨rfl, hb⟩; have HB2 := Lib.hid (bl_trans HB1.out hb); have HA2 := Lib.hid (HA1.out.below hb); have x0 := Lib.hid (bl_cell hb c0); have x1 := Lib.hid (bl_cell hb c1); clear hb c0 c1)
  go_wp2_with (go_at_call 17; (with_reducible refine (HD1.out w2).mono ?_); rintro r w3 ⟨ca, cp, rfl, ho, hc, hb⟩; have HU := Lib.hid (duo_box (t := (T : Int)) (u := T) (bl_cell hb x0.out) (bl_cell hb x1.out) (HA2.out.below hb) hc); have HB3 := Lib.hid (bl_alloc (bl_trans HB2.out hb) (.cells #[.slice ca zs.length cp, .int .i64 T] 24)); clear ho hc hb)
  go_wp2_with (go_at_call 17; (with_reducible refine (HD2.out _).mono ?_); rintro r w4 ⟨ea, ep, rfl, ho, hc, hb⟩; have HU4 := Lib.hid (HU.out.below hb); have HB4 := Lib.hid (bl_trans HB3.out hb); clear ho hc hb)
  have HU5 := Lib.hid (HU4.out.below (bl_alloc (Below.refl _ w4) (.cells #[.slice ea 0 ep, .int .i64 0] 24)))
  have HB5 := Lib.hid (bl_alloc HB4.out (.cells #[.slice ea 0 ep, .int .i64 0] 24))
  go_wp2_with (go_at_call 17; (with_reducible refine (HD3.out _).mono ?_); rintro r w5 ⟨fa, fp, rfl, ho, hc, hb⟩; have HU6 := Lib.hid ((HU5.out.below hb).below (bl_alloc (Below.refl _ w5) (.cells #[.slice fa 0 fp, .int .i64 0] 24))); have HB6 := Lib.hid (bl_alloc (bl_trans HB5.out hb) (.cells #[.slice fa 0 fp, .int .i64 0] 24)); have y0 := ((HU5.out.below hb).below (bl_alloc (Below.refl _ w5) (.cells #[.slice fa 0 fp, .int .i64 0] 24))).c0; have y1 := ((HU5.out.below hb).below (bl_alloc (Below.refl _ w5) (.cells #[.slice fa 0 fp, .int .i64 0] 24))).c1; have y2 := ((HU5.out.below hb).below (bl_alloc (Below.refl _ w5) (.cells #[.slice fa 0 fp, .int .i64 0] 24))).d0; have y3 := ((HU5.out.below hb).below (bl_alloc (Below.refl _ w5) (.cells #[.slice fa 0 fp, .int .i64 0] 24))).d1; clear ho hc hb)
  go_wp2_with (go_at_call 14; (with_reducible refine (cSame _ T T zs zs a ca cap cp HU6.out.ca HU6.out.cb).mono ?_); rintro e w7 ⟨rfl, hb⟩; rw [HSM.out]; have HU7 := Lib.hid (HU6.out.below hb); have HB7 := Lib.hid (bl_trans HB6.out hb); have z0 := (HU6.out.below hb).c0; have z1 := (HU6.out.below hb).c1; have z2 := (HU6.out.below hb).d0; have z3 := (HU6.out.below hb).d1; clear hb y0 y1 y2 y3)
  go_wp2_with (go_at_call 14; (with_reducible refine (cSame _ T T zs zs ca a cp cap HU7.out.cb HU7.out.ca).mono ?_); rintro e w8 ⟨rfl, hb⟩; rw [HSM.out]; have HU8 := Lib.hid (HU7.out.below hb); have HB8 := Lib.hid (bl_trans HB7.out hb); have v0 := (HU7.out.below hb).c0; have v1 := (HU7.out.below hb).c1; clear hb z0 z1 z2 z3)
  go_wp2_with (go_at_call 11; (with_reducible refine (HCK.out _ a cap HU8.out.ca).mono ?_); rintro e wz ⟨rfl, hb⟩; have HBz := Lib.hid (bl_trans HB8.out hb); clear hb v0 v1)
  go_wp2_with (go_at_call 17; (with_reducible refine (HX.out wz).mono ?_); rintro r wy ⟨xa, xp, rfl, ho, hc, hb⟩; have HBy := Lib.hid (bl_trans HBz.out hb); clear ho hc hb)
  go_ret
  exact ⟨rfl, bl_alloc HBy.out _⟩

set_option maxHeartbeats 1000000 in
set_option maxRecDepth 100000 in
theorem back_ok_fine (w : World) (t : Int) (zs : List Int) (a : Option Addr) (cap : Nat) (h : Com w a zs cap) (hsm : cap + 2 ≤ 17592186044416) (s : ByteArray) (hs : s.size < 281474976710656) (hc : checkR t zs = 0) (u : Nat) (ys : List Int) (hD : decR s = (0, (u, ys))) :
    Calls Try.prog 6 #[.agg #[.slice a zs.length cap, .int .i64 t], .string s] w fun e w' => e = .returned (.bool true) ∧ Below w.heap.size w w' := by
  have HA := Lib.hid h
  have HX := Lib.hid (fun w => decEx_of hD (cDecode s hs w))
  have HEN := Lib.hid (fun w a cap (k : Com w a ys cap) => enc_told hD w a cap k)
  clear h hD
  obtain ⟨h16, hin, _⟩ := check_ok hc
  have hin' := inn_yes hin
  obtain ⟨T, rfl⟩ := Int.eq_ofNat_of_zero_le hin'.1
  obtain ⟨S, hSd⟩ : ∃ S : ByteArray, S = ⟨(encC T zs).toArray⟩ := ⟨_, rfl⟩
  have hSl : S.data.toList = encC T zs := by rw [hSd]
  have hSz : S.size = 5 + 4 * zs.length := by rw [← size_list, hSl, encC_len]
  have D1 := dec_enc hc hSl
  have D2 : decR (S.extract 0 (S.size - 1)) = (2, (0, [])) := dec_less hc (by rw [extract_list, List.drop_zero, hSl, hSz, encC_len]; rfl)
  have D3 : decR (S ++ ⟨#[0]⟩) = (3, (0, [])) := dec_more hc (by rw [ByteArray.data_append, Array.toList_append, hSl])
  rw [Int.toNat_natCast] at D1
  have hs1 : S.size < 281474976710656 := by omega
  have hs2 : (S.extract 0 (S.size - 1)).size < 281474976710656 := by rw [ByteArray.size_extract]; omega
  have hs3 : (S ++ ⟨#[0]⟩).size < 281474976710656 := by rw [ByteArray.size_append]; show S.size + 1 < _; omega
  have HD1 := Lib.hid (fun w => decEx_of D1 (cDecode S hs1 w))
  have HD2 := Lib.hid (fun w => decEx_of D2 (cDecode _ hs2 w))
  have HD3 := Lib.hid (fun w => decEx_of D3 (cDecode _ hs3 w))
  have HEC := Lib.hid (fun w a cap (h : Com w a zs cap) => cEncode_ok w T zs a cap h.le h.max h.ints hc)
  rw [← hSd] at HEC
  have HCK := Lib.hid (cCheck_ex hc)
  have HSM := Lib.hid (sameB_self (t := (T : Int)) (zs := zs))
  have hs5 : 5 ≤ S.size := by omega
  have hs6 : S.size ≤ 69 := by omega
  clear hc hin hin' hSd hSl hSz D1 D2 D3 hs1 hs2 hs3
  go_enter Try.func6, Try.ntmps6
  go_wp2_with (go_at_call 7; refine (cTells _).mono ?_; rintro e w1 ⟨rfl, hb⟩; have HB1 := Lib.hid (bl_trans (bl_alloc (Below.refl _ w) _) hb); have HA1 := Lib.hid ((HA.out.alloc _).below hb); have c0 := bl_cell hb (b := w.heap.size) (o := 0) (v := .slice a zs.length cap) (by rw [World.cell?_alloc_mark]; rfl); have c1 := bl_cell hb (b := w.heap.size) (o := 1) (v := .int .i64 T) (by rw [World.cell?_alloc_mark]; rfl); clear hb)
  go_wp2_with (go_at_call 9; refine (HEC.out _ a cap HA1.out).mono ?_; rintro r w2 ⟨rfl, hb⟩; have HB2 := Lib.hid (bl_trans HB1.out hb); have HA2 := Lib.hid (HA1.out.below hb); have x0 := Lib.hid (bl_cell hb c0); have x1 := Lib.hid (bl_cell hb c1); clear hb c0 c1)
  go_wp2_with (go_at_call 17; (with_reducible refine (HD1.out w2).mono ?_); rintro r w3 ⟨ca, cp, rfl, ho, hc, hb⟩; have HU := Lib.hid (duo_box (t := (T : Int)) (u := T) (bl_cell hb x0.out) (bl_cell hb x1.out) (HA2.out.below hb) hc); have HB3 := Lib.hid (bl_alloc (bl_trans HB2.out hb) (.cells #[.slice ca zs.length cp, .int .i64 T] 24)); clear ho hc hb)
  go_wp2_with (go_at_call 17; (with_reducible refine (HD2.out _).mono ?_); rintro r w4 ⟨ea, ep, rfl, ho, hc, hb⟩; have HU4 := Lib.hid (HU.out.below hb); have HB4 := Lib.hid (bl_trans HB3.out hb); clear ho hc hb)
  have HU5 := Lib.hid (HU4.out.below (bl_alloc (Below.refl _ w4) (.cells #[.slice ea 0 ep, .int .i64 0] 24)))
  have HB5 := Lib.hid (bl_alloc HB4.out (.cells #[.slice ea 0 ep, .int .i64 0] 24))
  go_wp2_with (go_at_call 17; (with_reducible refine (HD3.out _).mono ?_); rintro r w5 ⟨fa, fp, rfl, ho, hc, hb⟩; have HU6 := Lib.hid ((HU5.out.below hb).below (bl_alloc (Below.refl _ w5) (.cells #[.slice fa 0 fp, .int .i64 0] 24))); have HB6 := Lib.hid (bl_alloc (bl_trans HB5.out hb) (.cells #[.slice fa 0 fp, .int .i64 0] 24)); have y0 := ((HU5.out.below hb).below (bl_alloc (Below.refl _ w5) (.cells #[.slice fa 0 fp, .int .i64 0] 24))).c0; have y1 := ((HU5.out.below hb).below (bl_alloc (Below.refl _ w5) (.cells #[.slice fa 0 fp, .int .i64 0] 24))).c1; have y2 := ((HU5.out.below hb).below (bl_alloc (Below.refl _ w5) (.cells #[.slice fa 0 fp, .int .i64 0] 24))).d0; have y3 := ((HU5.out.below hb).below (bl_alloc (Below.refl _ w5) (.cells #[.slice fa 0 fp, .int .i64 0] 24))).d1; clear ho hc hb)
  go_wp2_with (go_at_call 14; (with_reducible refine (cSame _ T T zs zs a ca cap cp HU6.out.ca HU6.out.cb).mono ?_); rintro e w7 ⟨rfl, hb⟩; rw [HSM.out]; have HU7 := Lib.hid (HU6.out.below hb); have HB7 := Lib.hid (bl_trans HB6.out hb); have z0 := (HU6.out.below hb).c0; have z1 := (HU6.out.below hb).c1; have z2 := (HU6.out.below hb).d0; have z3 := (HU6.out.below hb).d1; clear hb y0 y1 y2 y3)
  go_wp2_with (go_at_call 14; (with_reducible refine (cSame _ T T zs zs ca a cp cap HU7.out.cb HU7.out.ca).mono ?_); rintro e w8 ⟨rfl, hb⟩; rw [HSM.out]; have HU8 := Lib.hid (HU7.out.below hb); have HB8 := Lib.hid (bl_trans HB7.out hb); have v0 := (HU7.out.below hb).c0; have v1 := (HU7.out.below hb).c1; clear hb z0 z1 z2 z3)
  go_wp2_with (go_at_call 11; (with_reducible refine (HCK.out _ a cap HU8.out.ca).mono ?_); rintro e wz ⟨rfl, hb⟩; have HBz := Lib.hid (bl_trans HB8.out hb); clear hb v0 v1)
  go_wp2_with (go_at_call 17; (with_reducible refine (HX.out wz).mono ?_); rintro r wy ⟨xa, xp, rfl, ho, hc, hb⟩; have HXC := Lib.hid hc; have HBy := Lib.hid (bl_trans HBz.out hb); clear ho hc hb)
  go_wp2_with (go_at_call 9; refine (HEN.out _ xa xp (HXC.out.alloc _)).mono ?_; rintro r wv ⟨rfl, hb⟩; have HBv := Lib.hid (bl_trans (bl_alloc HBy.out _) hb); clear hb)
  go_ret
  exact ⟨rfl, HBv.out⟩

theorem commitBack_any (w : World) (t : Int) (zs : List Int) (a : Option Addr) (cap : Nat) (h : Com w a zs cap) (hsm : cap + 2 ≤ 17592186044416) (s : ByteArray) (hs : s.size ≤ 140737488355328) :
    Calls Try.prog 6 #[.agg #[.slice a zs.length cap, .int .i64 t], .string s] w fun e w' => e = .returned (.bool true) ∧ Below w.heap.size w w' := by
  have hss : s.size < 281474976710656 := by omega
  obtain ⟨E, u, ys, hD⟩ : ∃ E u ys, decR s = (E, (u, ys)) := ⟨_, _, _, rfl⟩
  by_cases hE : E = 0
  · subst hE
    by_cases hc : checkR t zs = 0
    · exact back_ok_fine w t zs a cap h hsm s hss hc u ys hD
    · exact back_bad_fine w t zs a cap h hsm s hss hc u ys hD
  · obtain ⟨rfl, rfl⟩ := dec_fail hD hE
    by_cases hc : checkR t zs = 0
    · exact back_ok_fail w t zs a cap h hsm s hss hc E hD hE
    · exact back_bad_fail w t zs a cap h hsm s hss hc E hD hE
end Go.Proofs.Ytmmabkppadokkaa
