/- Walks of layer 8: the bytes of a tree, by the document. -/
import Derived.Test.YtdjpmgkcgpkkmaaTrEn
import Derived.Deep.RegionHeld3
set_option linter.unusedVariables false
set_option linter.unusedSimpArgs false
namespace Go.Proofs.Ytdjpmgkcgpkkmaa
open Go.RowKit TrMath PackMath

set_option maxHeartbeats 2000000 in
set_option maxRecDepth 100000 in
theorem rEncodeBad (l : Ents) (hbad : encErr l ≠ 0) (a : Option Addr) (c : Nat) (hl : l.length ≤ maxLen) (w : World) (h : EnAt w a l) :
    Calls Try.prog 20 #[.slice a l.length c] w fun e w' => e = .returned (.tuple #[.string ⟨(encS l).toArray⟩, .int .i64 (encErr l)]) ∧ Below w.heap.size w w' := by
  have HC := Lib.hid (rCheck l a c hl w h)
  unfold maxLen at hl
  have HS := Lib.hid (show encS l = [] by unfold encS; rw [if_neg hbad])
  clear h
  by_cases hlong : 1024 < l.length
  · have HE := Lib.hid (show encErr l = 5 by unfold encErr; rw [if_pos hlong])
    have hlz : decide (1024 < (l.length : Int)) = true := by simp; omega
    clear hbad
    go_enter Try.func20, Try.ntmps20
    go_wp2
    go_ret2
    exact ⟨by rw [HE.out, HS.out]; rfl, Below.refl _ _⟩
  · have HE := Lib.hid (show encErr l = chkL l by unfold encErr; rw [if_neg hlong])
    have hlz : decide (1024 < (l.length : Int)) = false := by simp; omega
    have hn : (chkL l != 0) = true := by rw [HE.out] at hbad; simpa using hbad
    generalize chkL l = r at *
    clear hbad
    go_enter Try.func20, Try.ntmps20
    go_wp2_with (go_at_call 16; (with_reducible refine (HC.out).mono ?_); rintro e w1 ⟨rfl, hb⟩; have HB := Lib.hid hb; clear hb)
    go_ret2
    exact ⟨by rw [HE.out, HS.out]; rfl, HB.out⟩

set_option maxHeartbeats 2000000 in
set_option maxRecDepth 100000 in
theorem rEncodeOk (l : Ents) (hW : Words l) (hok : encErr l = 0) (a : Option Addr) (c : Nat) (w : World) (h : EnAt w a l) :
    Calls Try.prog 20 #[.slice a l.length c] w fun e w' => e = .returned (.tuple #[.string ⟨(encGo l l.length).toArray⟩, .int .i64 0]) ∧ Below w.heap.size w w' := by
  have hlen : ¬ 1024 < l.length := fun k => by unfold encErr at hok; rw [if_pos k] at hok; exact absurd hok (by decide)
  have hchk : chkL l = 0 := by unfold encErr at hok; rw [if_neg hlen] at hok; exact hok
  have HC := Lib.hid (show Calls Try.prog 16 #[.slice a l.length c] w fun e w' => e = .returned (.int .i64 0) ∧ Below w.heap.size w w' by have := rCheck l a c (by unfold maxLen; omega) w h; rw [hchk] at this; exact this)
  have HSH := Lib.hid (chk_short hchk)
  have HEL := Lib.hid (encGo_len l (chk_short hchk))
  have HA := Lib.hid h; have HWD := Lib.hid hW
  have hlz : decide (1024 < (l.length : Int)) = false := by simp; omega
  have hlw : IntKind.u64.wrap (l.length : Int) = (l.length : Int) := IntWalk.u64_in _ (by omega)
  have N0 := Lib.hid (fun W => refNumber_at (l.length : Int) l.length rfl 2 2 rfl (by omega) (by decide) W)
  clear h hW hok hchk
  go_enter Try.func20, Try.ntmps20
  go_wp2_with (first
    | (go_at_call 16; (with_reducible refine (HC.out).mono ?_); rintro e w1 ⟨rfl, hb⟩; have HB := Lib.hid hb; clear hb)
    | (go_at_call 48; (with_reducible refine (N0.out _).mono ?_); rintro e w2 ⟨rfl, hb⟩; have HB2 := Lib.hid (bl_trans HB.out hb); clear hb))
  go_loopw [5, 6, 7] (fun sv lv iv wr => ∃ (k : Nat) (S : ByteArray), k ≤ l.length ∧ iv = .int .i64 k ∧ lv = .string (lastP l k) ∧ sv = .string S ∧ S.data.toList = encGo l k ∧ Below w.heap.size w wr) (fun _ _ iv _ => l.length - (intOf iv).toNat)
  case atStart => exact ⟨0, _, Nat.zero_le _, rfl, rfl, rfl, rfl, HB2.out⟩
  case round =>
    obtain ⟨k, S, hk, rfl, rfl, rfl, hS, hbb⟩ := hrel
    have HS := Lib.hid hS; have HBk := Lib.hid hbb
    have hwz := hbb.size
    clear hS hbb
    by_cases hlt : k < l.length
    · obtain ⟨b1, o1, rfl, hb1, p1, p2⟩ := HA.out.below HBk.out k hlt
      obtain ⟨hx0, hx1⟩ := HWD.out.get hlt
      obtain ⟨p, x, hx⟩ : ∃ p x, l[k] = (p, x) := ⟨_, _, rfl⟩
      have hps := HSH.out l[k] (List.getElem_mem hlt)
      have HX := Lib.hid hx
      simp only [hx] at p1 p2 hx0 hx1 hps
      clear hx
      obtain ⟨X, rfl⟩ := Int.eq_ofNat_of_zero_le hx0
      have HN := Lib.hid (encGo_succ hlt HX.out)
      have HLS := Lib.hid (lastP_succ hlt HX.out)
      have hel : S.size ≤ 270000 := by
        have h1 := congrArg List.length HS.out
        have h2 := HEL.out k
        have h3 : S.data.toList.length = S.size := by simp
        omega
      obtain ⟨last, hlast⟩ : ∃ q, lastP l k = q := ⟨_, rfl⟩
      rw [hlast] at HN ⊢
      have hal := alkB_le last p
      have hlsz : last.size ≤ 255 := by
        rw [← hlast]
        unfold lastP
        split
        · decide
        · cases e : l[k - 1]? with
          | none => decide
          | some e2 => exact HSH.out e2 (List.mem_of_getElem? e)
      have HAL := Lib.hid (fun W => rAlike last p (by unfold maxLen; omega) (by unfold maxLen; omega) W)
      have HE1 := Lib.hid (show encE1 last p X = be (alkB last p) 1 ++ (be (p.size - alkB last p) 1 ++ ((kB p).drop (alkB last p) ++ be X 4)) from rfl)
      generalize alkB last p = n at *
      clear hlast
      obtain ⟨rs, hrs⟩ : ∃ rs, p.extract n p.size = rs := ⟨_, rfl⟩
      have hrz : rs.size = p.size - n := by rw [← hrs, ByteArray.size_extract]; omega
      have HRS := Lib.hid hrs
      have HRD := Lib.hid (show rs.data.toList = (kB p).drop n by rw [← hrs]; exact ext_data p n)
      obtain ⟨m, hm⟩ : ∃ m, rs.size = m := ⟨_, rfl⟩
      have hm2 : m ≤ 255 := by omega
      have HM := Lib.hid (show m = p.size - n by omega)
      have hn64 : IntKind.u64.wrap (n : Int) = (n : Int) := IntWalk.u64_in _ (by omega)
      have hm64 : IntKind.u64.wrap (m : Int) = (m : Int) := IntWalk.u64_in _ (by omega)
      have hx64 : IntKind.u64.wrap (X : Int) = (X : Int) := IntWalk.u64_in _ (by omega)
      have N1 := Lib.hid (fun W => refNumber_at (n : Int) n rfl 1 1 rfl (by omega) (by decide) W)
      have N2 := Lib.hid (fun W => refNumber_at (m : Int) m rfl 1 1 rfl (by omega) (by decide) W)
      have N4 := Lib.hid (fun W => refNumber_at (X : Int) X rfl 4 4 rfl (by omega) (by decide) W)
      obtain ⟨r1, hr1⟩ : ∃ r1 : ByteArray, (⟨(be n 1).toArray⟩ : ByteArray) = r1 := ⟨_, rfl⟩
      obtain ⟨r2, hr2⟩ : ∃ r1 : ByteArray, (⟨(be m 1).toArray⟩ : ByteArray) = r1 := ⟨_, rfl⟩
      obtain ⟨r4, hr4⟩ : ∃ r1 : ByteArray, (⟨(be X 4).toArray⟩ : ByteArray) = r1 := ⟨_, rfl⟩
      rw [hr1] at N1; rw [hr2] at N2; rw [hr4] at N4
      have hl1 : r1.size ≤ 1 := by rw [← hr1]; show (be n 1).toArray.size ≤ 1; simp [be_length]
      have hl2 : r2.size ≤ 1 := by rw [← hr2]; show (be m 1).toArray.size ≤ 1; simp [be_length]
      have hl3 : r4.size ≤ 4 := by rw [← hr4]; show (be X 4).toArray.size ≤ 4; simp [be_length]
      have HS1 := Lib.hid (show (S ++ r1 ++ r2 ++ rs ++ r4).data.toList = encGo l (k + 1) by rw [HN.out, HE1.out, ← HS.out, ← hr1, ← hr2, ← hr4, ← HRD.out, HM.out]; simp [List.append_assoc])
      have hq1 : ¬ (9223372036854775807 < S.size + r1.size) := by omega
      have hq2 : ¬ (9223372036854775807 < S.size + r1.size + r2.size) := by omega
      have hq3 : ¬ (9223372036854775807 < S.size + r1.size + r2.size + m) := by omega
      have hq4 : ¬ (9223372036854775807 < S.size + r1.size + r2.size + m + r4.size) := by omega
      clear hr1 hr2 hr4
      clear hrs hrz
      go_wp2_with fail
      refine (HAL.out _).mono ?_
      rintro e w4 ⟨rfl, nd, rfl⟩
      have HB4 := Lib.hid (bl_drewN HBk.out nd)
      have c1 : (wr.drewN nd).cell? ⟨b1, o1 + k * 2, none⟩ = some (.string p) := p1
      have c2 : (wr.drewN nd).cell? ⟨b1, o1 + k * 2 + 1, none⟩ = some (.int .u32 X) := p2
      clear p1 p2
      generalize wr.drewN nd = w4 at *
      go_wp2_with fail
      rw [HRS.out]
      go_region_held3 (fun w' => w'.cell? ⟨b1, o1 + k * 2, none⟩ = some (.string p) ∧ w'.cell? ⟨b1, o1 + k * 2 + 1, none⟩ = some (.int .u32 X))
        (first | exact H7.out | exact H6.out | exact H5.out | exact ⟨c1, c2⟩)
        (first
          | (go_at_call 48; (with_reducible refine (N1.out _).mono ?_); rintro e w5 ⟨rfl, hb⟩; have HB5 := Lib.hid ((bl_drew HB4.out).trans (hb.mono HB4.out.size)); have H5 := Lib.hid (show w5.cell? ⟨b1, o1 + k * 2, none⟩ = some (.string p) ∧ w5.cell? ⟨b1, o1 + k * 2 + 1, none⟩ = some (.int .u32 X) from ⟨bl_cell hb c1, bl_cell hb c2⟩); clear hb)
          | (go_at_call 48; (with_reducible refine (N2.out _).mono ?_); rintro e w6 ⟨rfl, hb⟩; have HB6 := Lib.hid (HB5.out.trans (hb.mono HB5.out.size)); have H6 := Lib.hid (show w6.cell? ⟨b1, o1 + k * 2, none⟩ = some (.string p) ∧ w6.cell? ⟨b1, o1 + k * 2 + 1, none⟩ = some (.int .u32 X) from ⟨bl_cell hb H5.out.1, bl_cell hb H5.out.2⟩); clear hb)
          | (go_at_call 48; (with_reducible refine (N4.out _).mono ?_); rintro e w7 ⟨rfl, hb⟩; have HB7 := Lib.hid (HB6.out.trans (hb.mono HB6.out.size)); have H7 := Lib.hid (show w7.cell? ⟨b1, o1 + k * 2, none⟩ = some (.string p) ∧ w7.cell? ⟨b1, o1 + k * 2 + 1, none⟩ = some (.int .u32 X) from ⟨bl_cell hb H6.out.1, bl_cell hb H6.out.2⟩); clear hb))
      all_goals
        go_wp2
        go_roundw
        case rel => exact ⟨k + 1, _, by omega, by go_num, by rw [HLS.out], rfl, HS1.out, HB7.out⟩
        case measure => simp [intOf]; omega
    · have HE := Lib.hid (show S = ⟨(encGo l l.length).toArray⟩ from ba_mk (by rw [HS.out]; congr 1; omega))
      go_wp2
      go_ret2
      exact ⟨by rw [HE.out]; rfl, HBk.out⟩
end Go.Proofs.Ytdjpmgkcgpkkmaa
