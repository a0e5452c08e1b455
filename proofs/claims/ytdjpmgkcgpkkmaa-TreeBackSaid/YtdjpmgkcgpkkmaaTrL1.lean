/- The law TreeEncodes, walked. -/
import Derived.Test.YtdjpmgkcgpkkmaaTrEr
set_option linter.unusedVariables false
set_option linter.unusedSimpArgs false
namespace Go.Proofs.Ytdjpmgkcgpkkmaa
open Go.RowKit TrMath PackMath

def encB (l : Ents) : ByteArray := ⟨(encS l).toArray⟩
theorem encS_ok {l : Ents} (h : encErr l = 0) : encS l = encGo l l.length := by unfold encS; rw [if_pos h]
theorem tEncode (l : Ents) (hW : Words l) (a : Option Addr) (c : Nat) (hl : l.length ≤ maxLen) (w : World) (h : EnAt w a l) :
    Calls Try.prog 19 #[.slice a l.length c] w fun e w' => e = .returned (.tuple #[.string (encB l), .int .i64 (encErr l)]) ∧ Below w.heap.size w w' := by
  by_cases hok : encErr l = 0
  · refine (tEncodeOk l hW hok a c w h).mono fun e w' ⟨he, hb⟩ => ⟨?_, hb⟩
    rw [he, encB, encS_ok hok, hok]
  · exact tEncodeBad l hok a c hl w h
theorem rEncodeT (l : Ents) (hW : Words l) (a : Option Addr) (c : Nat) (hl : l.length ≤ maxLen) (w : World) (h : EnAt w a l) :
    Calls Try.prog 20 #[.slice a l.length c] w fun e w' => e = .returned (.tuple #[.string (encB l), .int .i64 (encErr l)]) ∧ Below w.heap.size w w' := by
  by_cases hok : encErr l = 0
  · refine (rEncodeOk l hW hok a c w h).mono fun e w' ⟨he, hb⟩ => ⟨?_, hb⟩
    rw [he, encB, encS_ok hok, hok]
  · exact rEncodeBad l hok a c hl w h

set_option maxHeartbeats 2000000 in
set_option maxRecDepth 100000 in
theorem treeEncodes (l : Ents) (hW : Words l) (a : Option Addr) (c : Nat) (hcl : l.length ≤ c) (hcm : c ≤ maxLen) (w : World) (h : EnAt w a l) :
    Calls Try.prog 4 #[.slice a l.length c] w fun e w' => e = .returned (.bool true) ∧ Below w.heap.size w w' := by
  have hl : l.length ≤ maxLen := Nat.le_trans hcl hcm
  have HA := Lib.hid h
  have HSt := Lib.hid (fun W => lStands W)
  have HT := Lib.hid (fun W hw => tEncode l hW a c hl W hw)
  have HR := Lib.hid (fun W hw => rEncodeT l hW a c hl W hw)
  have HG := Lib.hid (fun W hw => lGood l hW a c hcl hcm hl W hw)
  have HTg := Lib.hid (fun W a c hw => tEncode (goodL l) (good_words hW) a c (by have := good_len l; unfold maxLen; omega) W hw)
  have HRg := Lib.hid (fun W a c hw => rEncodeT (goodL l) (good_words hW) a c (by have := good_len l; unfold maxLen; omega) W hw)
  have H5 := Lib.hid (show 3000 < l.length → encErr l = 5 ∧ encB l = ⟨#[]⟩ from fun k => by
    have e : encErr l = 5 := by unfold encErr; rw [if_pos (by omega)]
    exact ⟨e, by unfold encB encS; rw [if_neg (by rw [e]; decide)]⟩)
  clear h hW
  generalize encB (goodL l) = B2 at *
  generalize encErr (goodL l) = E2 at *
  unfold maxLen at hl
  by_cases hlong : 3000 < l.length
  · obtain ⟨e5, b5⟩ := H5.out hlong
    rw [e5, b5] at HT
    have hlz : decide (3000 < (l.length : Int)) = true := by simp; omega
    clear e5 b5
    go_enter Try.func4, Try.ntmps4
    go_wp2_with (first
      | (go_at_call 10; (with_reducible refine (HSt.out _).mono ?_); rintro e w1 ⟨rfl, hb⟩; have HB1 := Lib.hid hb; clear hb)
      | (go_at_call 19; (with_reducible refine (HT.out _ (HA.out.below HB1.out)).mono ?_); rintro e w2 ⟨rfl, hb⟩; have HB2 := Lib.hid (bl_trans HB1.out hb); clear hb))
    go_ret
    exact ⟨rfl, HB2.out⟩
  · have hlz : decide (3000 < (l.length : Int)) = false := by simp; omega
    clear H5
    generalize encB l = B1 at *
    generalize encErr l = E1 at *
    go_enter Try.func4, Try.ntmps4
    go_wp2_with (first
      | (go_at_call 10; (with_reducible refine (HSt.out _).mono ?_); rintro e w1 ⟨rfl, hb⟩; have HB1 := Lib.hid hb; clear hb)
      | (go_at_call 19; (with_reducible refine (HT.out _ (HA.out.below HB1.out)).mono ?_); rintro e w2 ⟨rfl, hb⟩; have HB2 := Lib.hid (bl_trans HB1.out hb); clear hb))
    go_wp2_with (go_at_call 20; (with_reducible refine (HR.out _ (HA.out.below HB2.out)).mono ?_); rintro e w3 ⟨rfl, hb⟩; have HB3 := Lib.hid (bl_trans HB2.out hb); clear hb)
    go_wp2_with fail
    refine (HG.out _ (HA.out.below HB3.out)).mono ?_
    rintro e w4 ⟨v4, rfl, hown4, hb4⟩
    have HB4 := Lib.hid (bl_trans HB3.out hb4)
    obtain ⟨a4, c4, rfl, he4, _, _⟩ := Own.at hown4
    have HE4 := Lib.hid he4
    clear he4 hb4 hown4
    go_wp2_with fail
    refine (HTg.out _ _ _ HE4.out).mono ?_
    rintro e w5 ⟨rfl, hb5⟩
    have HB5 := Lib.hid (bl_trans HB4.out hb5)
    clear hb5
    go_wp2_with fail
    refine (HG.out _ (HA.out.below HB5.out)).mono ?_
    rintro e w6 ⟨v6, rfl, hown6, hb6⟩
    have HB6 := Lib.hid (bl_trans HB5.out hb6)
    obtain ⟨a6, c6, rfl, he6, _, _⟩ := Own.at hown6
    have HE6 := Lib.hid he6
    clear he6 hb6 hown6
    go_wp2_with fail
    refine (HRg.out _ _ _ HE6.out).mono ?_
    rintro e w7 ⟨rfl, hb7⟩
    have HB7 := Lib.hid (bl_trans HB6.out hb7)
    clear hb7
    go_wp2
    go_ret
    exact ⟨rfl, HB7.out⟩
end Go.Proofs.Ytdjpmgkcgpkkmaa
