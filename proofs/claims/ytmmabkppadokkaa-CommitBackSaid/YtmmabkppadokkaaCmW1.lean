/- Walks of layer 9: what is wrong with a commit, in the program and in the document's answer. -/
import Derived.Test.YtmmabkppadokkaaOpenInts
import Derived.Test.YtmmabkppadokkaaCmMath
import Derived.Test.YtmmabkppadokkaaPackW2
import Derived.BigQuiet
import Derived.BigRegion
set_option linter.unusedVariables false
set_option linter.unusedSimpArgs false
namespace Go.Proofs.Ytmmabkppadokkaa
open Go.RowKit PackMath

section
variable (w : World)
theorem cIn (z : Int) : Calls Try.prog 23 #[.int .i64 z] w fun e w' => e = .returned (.bool (inn z)) ∧ w = w' := by
  by_cases h0 : 0 ≤ z
  · by_cases h1 : z < 65536
    · have hi := Lib.hid (show inn z = true from decide_eq_true ⟨h0, h1⟩)
      go_enter Try.func23, Try.ntmps23
      go_wp2
      go_ret
      exact ⟨ret_bool hi.out.symm, rfl⟩
    · have hi := Lib.hid (show inn z = false from decide_eq_false fun h => h1 h.2)
      have hd : decide (z < 65536) = false := by simpa using h1
      clear h1
      go_enter Try.func23, Try.ntmps23
      go_wp2
      go_ret
      exact ⟨ret_bool hi.out.symm, rfl⟩
  · have hi := Lib.hid (show inn z = false from decide_eq_false fun h => h0 h.1)
    have h1' : z < 0 := by omega
    clear h0
    go_enter Try.func23, Try.ntmps23
    go_wp2
    go_ret
    exact ⟨ret_bool hi.out.symm, rfl⟩
theorem dIn (z : Int) : Calls Try.prog 25 #[.int .i64 z] w fun e w' => e = .returned (.bool (inn z)) ∧ w = w' := by
  by_cases h0 : 0 ≤ z
  · by_cases h1 : z < 65536
    · have hi := Lib.hid (show inn z = true from decide_eq_true ⟨h0, h1⟩)
      go_enter Try.func25, Try.ntmps25
      go_wp2
      go_ret
      exact ⟨ret_bool hi.out.symm, rfl⟩
    · have hi := Lib.hid (show inn z = false from decide_eq_false fun h => h1 h.2)
      have hd : decide (z < 65536) = false := by simpa using h1
      clear h1
      go_enter Try.func25, Try.ntmps25
      go_wp2
      go_ret
      exact ⟨ret_bool hi.out.symm, rfl⟩
  · have hi := Lib.hid (show inn z = false from decide_eq_false fun h => h0 h.1)
    have h1' : z < 0 := by omega
    clear h0
    go_enter Try.func25, Try.ntmps25
    go_wp2
    go_ret
    exact ⟨ret_bool hi.out.symm, rfl⟩

def IdxSaid (z : Int) (zs : List Int) (w : World) (e : Ending) (w' : World) : Prop := ∃ j : Int, (0 ≤ j ↔ z ∈ zs) ∧ e = .returned (.int .i64 j) ∧ w = w'
theorem cIndex (z : Int) (zs : List Int) (a : Option Addr) (cap : Nat) (hl : zs.length ≤ maxLen) (h : IntsAt w .i64 a zs) :
    Calls Try.prog 34 #[.slice a zs.length cap, .int .i64 z] w (IdxSaid z zs w) := by
  unfold maxLen at hl
  have HI := Lib.hid h
  clear h
  go_enter Try.func34, Try.ntmps34
  go_wp2
  go_loop [8] (fun i => ∃ k : Nat, k ≤ zs.length ∧ i = .int .i64 k ∧ z ∉ zs.take k) (fun i => zs.length - (intOf i).toNat)
  case atStart => exact ⟨0, Nat.zero_le _, rfl, by simp⟩
  case round =>
    obtain ⟨k, hk, rfl, hn⟩ := hrel
    have HN := Lib.hid hn
    clear hn
    by_cases hlt : k < zs.length
    · obtain ⟨hwf, b, off, rfl, hcell⟩ := HI.out k hlt
      clear hwf
      have HT := Lib.hid (take_at zs k hlt)
      have HM := Lib.hid (show zs[k] ∈ zs from List.getElem_mem hlt)
      generalize zs[k] = x at hcell HT HM
      by_cases he : z = x
      · subst he
        go_wp2
        go_ret
        exact ⟨k, ⟨fun _ => HM.out, fun _ => by omega⟩, rfl, rfl⟩
      · have hd : (z == x) = false := by simpa using he
        have HE := Lib.hid he
        clear he
        go_wp2
        go_round
        case rel => exact ⟨k + 1, by omega, by go_num, by rw [HT.out]; simpa using ⟨HN.out, HE.out⟩⟩
        case measure => simp [intOf]; omega
    · have hz : Hid (z ∉ zs) := by have := HN.out; rw [List.take_of_length_le (by omega)] at this; exact this
      go_wp2
      go_ret
      exact ⟨-1, ⟨fun h => absurd h (by decide), fun h => absurd h hz.out⟩, rfl, rfl⟩

theorem cContains (z : Int) (zs : List Int) (a : Option Addr) (cap : Nat) (hl : zs.length ≤ maxLen) (h : IntsAt w .i64 a zs) :
    Calls Try.prog 24 #[.slice a zs.length cap, .int .i64 z] w fun e w' => e = .returned (.bool (memB z zs)) ∧ w = w' := by
  have HI := Lib.hid h
  clear h
  have HL := Lib.hid hl
  clear hl
  go_enter Try.func24, Try.ntmps24
  go_wp2_with (go_at_call 34; refine (cIndex w z zs a cap HL.out HI.out).mono ?_; rintro e w' ⟨j, hj, rfl, rfl⟩; have HJ := Lib.hid hj; clear hj)
  go_ret
  refine ⟨ret_bool ?_, rfl⟩
  unfold memB
  simp [HJ.out]
theorem cContains_at (z : Int) (zs : List Int) (a : Option Addr) (x : Int) (cap k : Nat) (hx : x = k) (hk : zs.length = k) (hl : zs.length ≤ maxLen) (h : IntsAt w .i64 a zs) :
    Calls Try.prog 24 #[.slice a k cap, .int .i64 z] w fun e w' => e = .returned (.bool (memB z zs)) ∧ w = w' := by
  subst hk
  exact cContains w z zs a cap hl h

theorem IntsAt.take {k : IntKind} {a : Option Addr} {zs : List Int} (h : IntsAt w k a zs) (n : Nat) : IntsAt w k a (zs.take n) := fun i hi => by
  have hl : i < zs.length := by rw [List.length_take] at hi; omega
  have := h i hl
  rw [List.getElem_take]
  exact this
theorem IntsAt.drewN {k : IntKind} {a : Option Addr} {zs : List Int} (h : IntsAt w k a zs) (n : Nat) : IntsAt (w.drewN n) k a zs := h

set_option maxHeartbeats 800000 in
theorem cCheck (t : Int) (zs : List Int) (a : Option Addr) (cap : Nat) (hc : zs.length ≤ cap) (hl : cap ≤ maxLen) (h : IntsAt w .i64 a zs) :
    Calls Try.prog 11 #[.agg #[.slice a zs.length cap, .int .i64 t]] w fun e w' => e = .returned (.int .i64 (checkR t zs)) ∧ Below w.heap.size w w' := by
  unfold maxLen at hl
  have HI := Lib.hid (h.below (bl_alloc (Below.refl _ w) (.cells #[.slice a zs.length cap, .int .i64 t] 24)) (Nat.le_refl _))
  have HB := Lib.hid (bl_alloc (Below.refl _ w) (.cells #[.slice a zs.length cap, .int .i64 t] 24))
  clear h
  by_cases h16 : 16 < zs.length
  · have hd : decide (16 < zs.length) = true := by simpa using h16
    have hdi : decide ((16 : Int) < (zs.length : Int)) = true := by simp; omega
    have HR := Lib.hid (check_long (t := t) h16)
    clear h16
    go_enter Try.func11, Try.ntmps11
    go_wp2
    go_ret
    exact ⟨ret_int (by rw [HR.out]; rfl), HB.out⟩
  · have hd : decide (16 < zs.length) = false := by simpa using h16
    have hdi : decide ((16 : Int) < (zs.length : Int)) = false := by simp; omega
    by_cases hi : inn t = true
    · have HR := Lib.hid (check_go h16 hi)
      clear h16
      go_enter Try.func11, Try.ntmps11
      go_wp2_with (go_at_call 23; refine (cIn _ t).mono ?_; rintro e w1 ⟨rfl, rfl⟩)
      go_loop [18] (fun i => ∃ k : Nat, k ≤ zs.length ∧ i = .int .i64 k ∧ chkGo (zs.take k) (zs.drop k) = chkGo [] zs) (fun i => zs.length - (intOf i).toNat)
      case atStart => exact ⟨0, Nat.zero_le _, rfl, rfl⟩
      case round =>
        obtain ⟨k, hk, rfl, hn⟩ := hrel
        have HN := Lib.hid hn
        clear hn
        by_cases hlt : k < zs.length
        · have HC := Lib.hid (cContains_at (w.alloc (.cells #[.slice a zs.length cap, .int .i64 t] 24)) zs[k] (zs.take k) a k cap k rfl (by rw [List.length_take]; omega) (by rw [List.length_take]; unfold maxLen; omega) (HI.out.take _ k))
          obtain ⟨hwf, b, off, rfl, hcell⟩ := HI.out k hlt
          clear hwf
          have H1 := chk_in zs k hlt
          have H2 := chk_twice zs k hlt
          have H3 := chk_on zs k hlt
          generalize zs[k] = x at hcell H1 H2 H3 HC
          rcases hix : inn x with _ | _
          · have HE := Lib.hid (HN.out.symm.trans (H1 hix))
            clear H1 H2 H3
            go_wp2_with (go_at_call 23; refine (cIn _ x).mono ?_; rintro e w1 ⟨rfl, rfl⟩)
            go_ret
            exact ⟨ret_int (by rw [HR.out, HE.out]; rfl), HB.out⟩
          · rcases hmx : memB x (zs.take k) with _ | _
            · have HE := Lib.hid ((H3 hix hmx).symm.trans HN.out)
              clear H1 H2 H3
              go_wp2_with (first
                | (go_at_call 23; refine (cIn _ x).mono ?_; rintro e w1 ⟨rfl, rfl⟩)
                | (go_at_call 24; refine HC.out.mono ?_; rintro e w1 ⟨rfl, rfl⟩))
              go_round
              case rel => exact ⟨k + 1, by omega, by go_num, HE.out⟩
              case measure => simp [intOf]; omega
            · have HE := Lib.hid (HN.out.symm.trans (H2 hix hmx))
              clear H1 H2 H3
              go_wp2_with (first
                | (go_at_call 23; refine (cIn _ x).mono ?_; rintro e w1 ⟨rfl, rfl⟩)
                | (go_at_call 24; refine HC.out.mono ?_; rintro e w1 ⟨rfl, rfl⟩))
              go_ret
              exact ⟨ret_int (by rw [HR.out, HE.out]; rfl), HB.out⟩
        · have HE := Lib.hid (HN.out.symm.trans (chk_end zs k (by omega)))
          go_wp2
          go_ret
          exact ⟨ret_int (by rw [HR.out, HE.out]; rfl), HB.out⟩
    · have hi' : inn t = false := by simpa using hi
      have HR := Lib.hid (check_tree h16 hi')
      clear h16 hi
      go_enter Try.func11, Try.ntmps11
      go_wp2_with (go_at_call 23; refine (cIn _ t).mono ?_; rintro e w1 ⟨rfl, rfl⟩)
      go_ret
      exact ⟨ret_int (by rw [HR.out]; rfl), HB.out⟩
end
end Go.Proofs.Ytmmabkppadokkaa
