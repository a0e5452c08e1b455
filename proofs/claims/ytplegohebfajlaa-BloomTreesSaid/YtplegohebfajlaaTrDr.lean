/- Layer 8: how two trees differ, by the document. -/
import Derived.Test.YtplegohebfajlaaTrDf
import Derived.Deep.RegionLaw
set_option linter.unusedVariables false
set_option linter.unusedSimpArgs false
namespace Go.Proofs.Ytplegohebfajlaa
open Go.RowKit TrMath

/-- What is still to be told. -/
structure RfAt (X Y : Ents) (w wr : World) (v : Value) (i j : Nat) (P : Chs) : Prop where
  li : i ≤ X.length
  lj : j ≤ Y.length
  own : OwnC wr w.heap.size v P
  eq : diffL X Y = P ++ diffL (X.drop i) (Y.drop j)
  len : P.length ≤ i + j
  bel : Below w.heap.size w wr
theorem drop_at {X : Ents} {i : Nat} {e : ByteArray × Int} (h : i < X.length) (he : X[i] = e) : X.drop i = e :: X.drop (i + 1) := by
  rw [List.drop_eq_getElem_cons h, he]

set_option maxHeartbeats 20000000 in
set_option maxRecDepth 100000 in
theorem rDiff (X Y : Ents) (a b : Option Addr) (c d : Nat) (hl : X.length + Y.length ≤ 1000000000) (w : World) (h : EnAt w a X) (k : EnAt w b Y) :
    Calls Try.prog 27 #[.slice a X.length c, .slice b Y.length d] w (DiffSaid X Y w) := by
  obtain ⟨i0, hi, hz0, hz1, hz2⟩ := info_parts infoChange
  have HST := Lib.hid (show RfAt X Y w w (.slice none 0 0) 0 0 [] from ⟨Nat.zero_le _, Nat.zero_le _, OwnC.nil _ _, rfl, Nat.zero_le _, Below.refl _ _⟩)
  have HA := Lib.hid h; have HBB := Lib.hid k
  clear h k
  obtain ⟨n, hn⟩ : ∃ n, X.length = n := ⟨_, rfl⟩
  obtain ⟨m, hm⟩ : ∃ m, Y.length = m := ⟨_, rfl⟩
  rw [hn, hm] at hl
  have HN := Lib.hid hn; have HM := Lib.hid hm
  rw [hn, hm]
  clear hn hm
  go_enter Try.func27, Try.ntmps27
  go_wp2
  go_loopw [5, 6, 7] (fun lv iv jv wr => ∃ i j P, iv = .int .i64 (i : Nat) ∧ jv = .int .i64 (j : Nat) ∧ RfAt X Y w wr lv i j P) (fun _ iv jv _ => n + m - ((intOf iv).toNat + (intOf jv).toNat))
  case atStart => exact ⟨0, 0, _, rfl, rfl, HST.out⟩
  case round =>
    obtain ⟨i, j, P, rfl, rfl, hat⟩ := hrel
    have hin := hat.li; have hjm := hat.lj; have hpl := hat.len; have hws := hat.bel.size
    rw [HN.out] at hin; rw [HM.out] at hjm
    have HO := Lib.hid hat.own; have HE := Lib.hid hat.eq; have HB := Lib.hid hat.bel
    clear hat
    by_cases hi1 : i < n
    · have hd1 : decide ((i : Int) < (n : Int)) = true := by simp; omega
      have hd2 : ((i : Int) == (n : Int)) = false := by simp; omega
      obtain ⟨ab, ao, hab, _, p1, p2⟩ := HA.out i (by rw [HN.out]; exact hi1)
      subst hab
      obtain ⟨p, x, hx⟩ : ∃ p x, X[i]'(by rw [HN.out]; exact hi1) = (p, x) := ⟨_, _, rfl⟩
      rw [hx] at p1 p2
      have HDX := Lib.hid (drop_at (by rw [HN.out]; exact hi1) hx)
      have g1 := bl_cell HB.out p1
      have g2 := bl_cell HB.out p2
      clear hx p1 p2
      by_cases hj1 : j < m
      · have hd3 : ((j : Int) == (m : Int)) = false := by simp; omega
        obtain ⟨bb, bo, hbb, _, q1, q2⟩ := HBB.out j (by rw [HM.out]; exact hj1)
        subst hbb
        obtain ⟨q, y, hx⟩ : ∃ q y, Y[j]'(by rw [HM.out]; exact hj1) = (q, y) := ⟨_, _, rfl⟩
        rw [hx] at q1 q2
        have HDY := Lib.hid (drop_at (by rw [HM.out]; exact hj1) hx)
        have g3 := bl_cell HB.out q1
        have g4 := bl_cell HB.out q2
        clear hx q1 q2
        have HE1 := Lib.hid (show diffL X Y = P ++ diffL ((p, x) :: X.drop (i + 1)) ((q, y) :: Y.drop (j + 1)) by rw [HE.out, HDX.out, HDY.out])
        rcases Bool.eq_false_or_eq_true (ltB p q) with hpq | hpq
        · have hbl : Op.bytesLess p.toList q.toList = true := by rw [bless]; exact hpq
          have HE3 := Lib.hid (show diffL X Y = (P ++ [(p, x, 0)]) ++ diffL (X.drop (i + 1)) (Y.drop j) by rw [diff_3 HE1.out hpq, HDY.out])
          clear hpq
          go_wp2_with fail
          go_quiet (fail)
          go_wp2_with fail
          go_region_law (refine step_append_lies _ rfl (.tmp 76) (.tmp 88) 58 rfl w.heap.size 61 i0 (.agg #[.string ⟨#[]⟩, .int .u32 0, .int .u32 0]) 3 24 Try.underlying58 hi hz0 hz1 hz2 rfl (by decide) _ P.length (chCells P) rfl (HO.out.below (by repeat (first | exact Below.refl _ wr | refine bl_alloc ?_ _ | refine bl_drew ?_ | refine bl_drewN ?_ _))) _ 1 1 [.string p, .int .u32 x, .int .u32 0] rfl rfl (cells_trip' _ _ _ _ _ rfl) (one_trip _ _ _) (by decide) (by unfold maxLen; omega) (by omega) (by simp; omega) _ rfl ?_; intro gg cp w5 hown hg hat hlt5; have HO5 := Lib.hid hown; have HB5 := Lib.hid (gb_over HB.out (by repeat (first | exact Below.refl _ wr | refine bl_alloc ?_ _ | refine bl_drew ?_ | refine bl_drewN ?_ _)) hg (fun i hi => (HO.out.lt i hi).1)); clear hown hg hat hlt5)
          all_goals go_wp2_with fail
          all_goals refine ⟨⟨i + 1, j, _, by first | rfl | go_num, by first | rfl | go_num, ⟨by rw [HN.out]; omega, by rw [HM.out]; omega, OwnC.push HO5.out, HE3.out, by rw [List.length_append]; simp; omega, HB5.out⟩⟩, by simp [intOf]; omega⟩
        · rcases Bool.eq_false_or_eq_true (ltB q p) with hqp | hqp
          · have hbl : Op.bytesLess p.toList q.toList = false := by rw [bless]; exact hpq
            have hbl2 : Op.bytesLess q.toList p.toList = true := by rw [bless]; exact hqp
            have HE3 := Lib.hid (show diffL X Y = (P ++ [(q, 0, y)]) ++ diffL (X.drop i) (Y.drop (j + 1)) by rw [diff_4 HE1.out hqp, HDX.out])
            clear hpq hqp
            go_wp2_with fail
            go_quiet (fail)
            go_wp2_with fail
            go_quiet (fail)
            go_wp2_with fail
            go_region_law (refine step_append_lies _ rfl (.tmp 110) (.tmp 122) 58 rfl w.heap.size 61 i0 (.agg #[.string ⟨#[]⟩, .int .u32 0, .int .u32 0]) 3 24 Try.underlying58 hi hz0 hz1 hz2 rfl (by decide) _ P.length (chCells P) rfl (HO.out.below (by repeat (first | exact Below.refl _ wr | refine bl_alloc ?_ _ | refine bl_drew ?_ | refine bl_drewN ?_ _))) _ 1 1 [.string q, .int .u32 0, .int .u32 y] rfl rfl (cells_trip' _ _ _ _ _ rfl) (one_trip _ _ _) (by decide) (by unfold maxLen; omega) (by omega) (by simp; omega) _ rfl ?_; intro gg cp w5 hown hg hat hlt5; have HO5 := Lib.hid hown; have HB5 := Lib.hid (gb_over HB.out (by repeat (first | exact Below.refl _ wr | refine bl_alloc ?_ _ | refine bl_drew ?_ | refine bl_drewN ?_ _)) hg (fun i hi => (HO.out.lt i hi).1)); clear hown hg hat hlt5)
            all_goals go_wp2_with fail
            all_goals refine ⟨⟨i, j + 1, _, by first | rfl | go_num, by first | rfl | go_num, ⟨by rw [HN.out]; omega, by rw [HM.out]; omega, OwnC.push HO5.out, HE3.out, by rw [List.length_append]; simp; omega, HB5.out⟩⟩, by simp [intOf]; omega⟩
          · obtain rfl := ltB_tri hpq hqp
            have hbl : Op.bytesLess p.toList p.toList = false := by rw [bless]; exact hpq
            clear hpq hqp
            by_cases hxy : x = y
            · subst hxy
              have hxx : (x != x) = false := by simp
              have HE3 := Lib.hid (diff_6 HE1.out)
              go_wp2_with fail
              go_quiet (fail)
              go_wp2_with fail
              go_quiet (fail)
              go_wp2_with fail
              go_quiet (fail)
              go_wp2_with fail
              refine ⟨⟨i + 1, j + 1, _, by first | rfl | go_num, by first | rfl | go_num, ⟨by rw [HN.out]; omega, by rw [HM.out]; omega, HO.out.below (by repeat (first | exact Below.refl _ wr | refine bl_alloc ?_ _ | refine bl_drew ?_ | refine bl_drewN ?_ _)), HE3.out, by omega, bl_trans HB.out (by repeat (first | exact Below.refl _ wr | refine bl_alloc ?_ _ | refine bl_drew ?_ | refine bl_drewN ?_ _))⟩⟩, by simp [intOf]; omega⟩
            · have hxx : (x != y) = true := by simpa using hxy
              have hxx2 : (x == y) = false := by simpa using hxy
              have HE3 := Lib.hid (diff_5 HE1.out hxy)
              go_wp2_with fail
              go_quiet (fail)
              go_wp2_with fail
              go_quiet (fail)
              go_wp2_with fail
              go_quiet (fail)
              go_wp2_with fail
              go_region_law (refine step_append_lies _ rfl (.tmp 29) (.tmp 46) 58 rfl w.heap.size 61 i0 (.agg #[.string ⟨#[]⟩, .int .u32 0, .int .u32 0]) 3 24 Try.underlying58 hi hz0 hz1 hz2 rfl (by decide) _ P.length (chCells P) rfl (HO.out.below (by repeat (first | exact Below.refl _ wr | refine bl_alloc ?_ _ | refine bl_drew ?_ | refine bl_drewN ?_ _))) _ 1 1 [.string p, .int .u32 x, .int .u32 y] rfl rfl (cells_trip' _ _ _ _ _ rfl) (one_trip _ _ _) (by decide) (by unfold maxLen; omega) (by omega) (by simp; omega) _ rfl ?_; intro gg cp w5 hown hg hat hlt5; have HO5 := Lib.hid hown; have HB5 := Lib.hid (gb_over HB.out (by repeat (first | exact Below.refl _ wr | refine bl_alloc ?_ _ | refine bl_drew ?_ | refine bl_drewN ?_ _)) hg (fun i hi => (HO.out.lt i hi).1)); clear hown hg hat hlt5)
              all_goals go_wp2_with fail
              all_goals refine ⟨⟨i + 1, j + 1, _, by first | rfl | go_num, by first | rfl | go_num, ⟨by rw [HN.out]; omega, by rw [HM.out]; omega, OwnC.push HO5.out, HE3.out, by rw [List.length_append]; simp; omega, HB5.out⟩⟩, by simp [intOf]; omega⟩
      · have hd3 : ((j : Int) == (m : Int)) = true := by simp; omega
        have HE2 := Lib.hid (diff_1 (show diffL X Y = P ++ diffL ((p, x) :: X.drop (i + 1)) [] by rw [HE.out, HDX.out, List.drop_eq_nil_of_le (show Y.length ≤ j by rw [HM.out]; omega)]))
        have HE3 := Lib.hid (show diffL X Y = (P ++ [(p, x, 0)]) ++ diffL (X.drop (i + 1)) (Y.drop j) by rw [HE2.out, List.drop_eq_nil_of_le (show Y.length ≤ j by rw [HM.out]; omega)])
        go_wp2_with fail
        go_quiet (fail)
        go_wp2_with fail
        go_region_law (refine step_append_lies _ rfl (.tmp 76) (.tmp 88) 58 rfl w.heap.size 61 i0 (.agg #[.string ⟨#[]⟩, .int .u32 0, .int .u32 0]) 3 24 Try.underlying58 hi hz0 hz1 hz2 rfl (by decide) _ P.length (chCells P) rfl (HO.out.below (by repeat (first | exact Below.refl _ wr | refine bl_alloc ?_ _ | refine bl_drew ?_ | refine bl_drewN ?_ _))) _ 1 1 [.string p, .int .u32 x, .int .u32 0] rfl rfl (cells_trip' _ _ _ _ _ rfl) (one_trip _ _ _) (by decide) (by unfold maxLen; omega) (by omega) (by simp; omega) _ rfl ?_; intro gg cp w5 hown hg hat hlt5; have HO5 := Lib.hid hown; have HB5 := Lib.hid (gb_over HB.out (by repeat (first | exact Below.refl _ wr | refine bl_alloc ?_ _ | refine bl_drew ?_ | refine bl_drewN ?_ _)) hg (fun i hi => (HO.out.lt i hi).1)); clear hown hg hat hlt5)
        all_goals go_wp2_with fail
        all_goals refine ⟨⟨i + 1, j, _, by first | rfl | go_num, by first | rfl | go_num, ⟨by rw [HN.out]; omega, by rw [HM.out]; omega, OwnC.push HO5.out, HE3.out, by rw [List.length_append]; simp; omega, HB5.out⟩⟩, by simp [intOf]; omega⟩
    · by_cases hj1 : j < m
      · have hd1 : decide ((i : Int) < (n : Int)) = false := by simp; omega
        have hd2 : ((i : Int) == (n : Int)) = true := by simp; omega
        have hd3 : ((j : Int) == (m : Int)) = false := by simp; omega
        have hd4 : decide ((j : Int) < (m : Int)) = true := by simp; omega
        obtain ⟨bb, bo, hbb, _, q1, q2⟩ := HBB.out j (by rw [HM.out]; exact hj1)
        subst hbb
        obtain ⟨q, y, hx⟩ : ∃ q y, Y[j]'(by rw [HM.out]; exact hj1) = (q, y) := ⟨_, _, rfl⟩
        rw [hx] at q1 q2
        have HDY := Lib.hid (drop_at (by rw [HM.out]; exact hj1) hx)
        have g3 := bl_cell HB.out q1
        have g4 := bl_cell HB.out q2
        clear hx q1 q2
        have HE2 := Lib.hid (diff_2 (show diffL X Y = P ++ diffL [] ((q, y) :: Y.drop (j + 1)) by rw [HE.out, HDY.out, List.drop_eq_nil_of_le (show X.length ≤ i by rw [HN.out]; omega)]))
        have HE3 := Lib.hid (show diffL X Y = (P ++ [(q, 0, y)]) ++ diffL (X.drop i) (Y.drop (j + 1)) by rw [HE2.out, List.drop_eq_nil_of_le (show X.length ≤ i by rw [HN.out]; omega)])
        go_wp2_with fail
        go_quiet (fail)
        go_wp2_with fail
        go_quiet (fail)
        go_wp2_with fail
        go_region_law (refine step_append_lies _ rfl (.tmp 110) (.tmp 122) 58 rfl w.heap.size 61 i0 (.agg #[.string ⟨#[]⟩, .int .u32 0, .int .u32 0]) 3 24 Try.underlying58 hi hz0 hz1 hz2 rfl (by decide) _ P.length (chCells P) rfl (HO.out.below (by repeat (first | exact Below.refl _ wr | refine bl_alloc ?_ _ | refine bl_drew ?_ | refine bl_drewN ?_ _))) _ 1 1 [.string q, .int .u32 0, .int .u32 y] rfl rfl (cells_trip' _ _ _ _ _ rfl) (one_trip _ _ _) (by decide) (by unfold maxLen; omega) (by omega) (by simp; omega) _ rfl ?_; intro gg cp w5 hown hg hat hlt5; have HO5 := Lib.hid hown; have HB5 := Lib.hid (gb_over HB.out (by repeat (first | exact Below.refl _ wr | refine bl_alloc ?_ _ | refine bl_drew ?_ | refine bl_drewN ?_ _)) hg (fun i hi => (HO.out.lt i hi).1)); clear hown hg hat hlt5)
        all_goals go_wp2_with fail
        all_goals refine ⟨⟨i, j + 1, _, by first | rfl | go_num, by first | rfl | go_num, ⟨by rw [HN.out]; omega, by rw [HM.out]; omega, OwnC.push HO5.out, HE3.out, by rw [List.length_append]; simp; omega, HB5.out⟩⟩, by simp [intOf]; omega⟩
      · have HR := Lib.hid (show diffL X Y = P by rw [HE.out, List.drop_eq_nil_of_le (show X.length ≤ i by rw [HN.out]; omega), List.drop_eq_nil_of_le (show Y.length ≤ j by rw [HM.out]; omega), diffL]; simp)
        have hd1 : decide ((i : Int) < (n : Int)) = false := by simp; omega
        have hd2 : decide ((j : Int) < (m : Int)) = false := by simp; omega
        go_wp2
        go_ret
        exact ⟨_, rfl, by rw [HR.out]; exact HO.out, HB.out⟩
end Go.Proofs.Ytplegohebfajlaa
