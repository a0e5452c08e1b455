/- Walks of layer 2: the document's short numbers and texts. -/
import Derived.Test.YtbbcgafkpobndaaPackS
import Derived.Test.YtbbcgafkpobndaaNum
set_option linter.unusedVariables false
set_option linter.unusedSimpArgs false
namespace Go.Proofs.Ytbbcgafkpobndaa
open Go.RowKit PackMath

theorem lb128 (m : Nat) : (m : Int) % 128 + 128 = (((UInt8.ofNat (m % 128 + 128)).toNat : Nat) : Int) := by
  rw [UInt8.toNat_ofNat']
  omega
theorem below_own {B : Nat} {w w1 : World} {v : Value} {n : Nat} {xs : List Value} (h : w.ownsRow B 5 1 v n xs) {o : Obj} (hg : (w.alloc o).grownBy w1 v.ownBlock) (hB : B ≤ w.heap.size) : Below B w w1 :=
  ⟨hg.os, hg.tape, hg.output, by have := hg.size; simp at this; omega, fun k hk => by
    rw [hg.block k (by simp; omega) (fun e => by have := (h.lt k e.symm).1; omega), Below.heap_alloc w o k (by omega)]⟩

set_option maxHeartbeats 1000000 in
set_option maxRecDepth 100000 in
theorem refShort_any (x : Nat) (hx : x < 18446744073709551616) (w : World) :
    Calls Try.prog 35 #[.int .u64 x] w fun e w' => e = .returned (.string ⟨(short x).toArray⟩) ∧ Below w.heap.size w w' := by
  obtain ⟨i0, hi, hz0, hz1, hz2⟩ := info_parts infoU8
  have HX := Lib.hid (short_ten hx)
  go_enter Try.func35, Try.ntmps35
  go_wp2
  go_loopw [0, 3] (fun xv bv wr => ∃ (m : Nat) (W : List UInt8) (v : Value), xv = .int .u64 m ∧ bv = v ∧ m < 18446744073709551616 ∧ W ++ short m = short x ∧ wr.ownsRow w.heap.size 5 1 v W.length (bytesOf W) ∧ Below w.heap.size w wr) (fun xv _ _ => (intOf xv).toNat)
  case atStart => exact ⟨x, [], _, rfl, rfl, hx, rfl, World.ownsRow_nil _ _ _ _, Below.refl _ _⟩
  case round =>
    obtain ⟨m, W, v, rfl, rfl, hm, hW, hown, hbb⟩ := hrel
    have hwl : W.length + 1 ≤ 10 := by
      have := congrArg List.length hW
      have h1 := short_pos m
      have h2 := HX.out
      rw [List.length_append] at this
      omega
    have HW := Lib.hid hW; have HO := Lib.hid hown; have HB := Lib.hid hbb
    have hsz := hbb.size
    clear hW hown hbb
    by_cases hlt : m < 128
    · have hd : decide ((128 : Int) ≤ (m : Int)) = false := by simp; omega
      have hval := last_byte m hlt
      have HE := Lib.hid (short_small hlt)
      have hlb : IntKind.u8.wrap (m : Int) = (m : Int) := IntWalk.u8_in _ (by omega)
      have HV : Hid (Value.int .u8 (m : Int) = .int .u8 (((UInt8.ofNat m).toNat : Nat) : Int)) := Lib.hid (by rw [← hval]; congr 1; omega)
      clear hval
      go_wp2_with (refine wpList_append_lies _ rfl (.tmp 15) (.tmp 18) 26 rfl w.heap.size 5 i0 (.int .u8 0) 1 1 Try.underlying26 hi hz0 hz1 hz2 rfl (by decide) _ W.length (bytesOf W) rfl (HO.out.alloc _) ⟨wr.heap.size, 0, none⟩ 1 1 [.int .u8 (m : Int)] rfl rfl (cells_one _ _ _) (by rw [HV.out]; exact one_byte _) (by decide) (by unfold maxLen; omega) (by omega) (by simp; omega) (wr.heap.size + 1) (by simp) ?_; intro g cap w1 hown hg hat hlt2; have HB1 := Lib.hid (HB.out.trans (below_own HO.out hg hsz)); rw [HV.out] at hown; have hrun := run_own_string w.heap.size w1 (.slice (some ⟨g, 0, none⟩) (W.length + 1) cap) (W ++ [UInt8.ofNat m]) (by rw [List.length_append, bytesOf_append]; exact hown); clear hown hg hat hlt2)
      have HFIN := Lib.hid (show W ++ [UInt8.ofNat m] = short x by rw [← HW.out, HE.out])
      go_wp2
      go_ret
      exact ⟨by rw [← HFIN.out]; rfl, HB1.out⟩
    · have hd : decide ((128 : Int) ≤ (m : Int)) = true := by simp; omega
      have HE := Lib.hid (short_great hlt)
      have HV : Hid (Value.int .u8 ((m : Int) % 128 + 128) = .int .u8 (((UInt8.ofNat (m % 128 + 128)).toNat : Nat) : Int)) := Lib.hid (by rw [lb128])
      go_wp2_with (refine wpList_append_lies _ rfl (.tmp 6) (.tmp 11) 26 rfl w.heap.size 5 i0 (.int .u8 0) 1 1 Try.underlying26 hi hz0 hz1 hz2 rfl (by decide) _ W.length (bytesOf W) rfl (HO.out.alloc _) ⟨wr.heap.size, 0, none⟩ 1 1 [.int .u8 ((m : Int) % 128 + 128)] rfl rfl (cells_one _ _ _) (by rw [HV.out]; exact one_byte _) (by decide) (by unfold maxLen; omega) (by omega) (by simp; omega) (wr.heap.size + 1) (by simp) ?_; intro g cap w1 hown hg hat hlt2; have HB1 := Lib.hid (HB.out.trans (below_own HO.out hg hsz)); rw [HV.out] at hown; have HO1 := Lib.hid hown; clear hown hg hat hlt2)
      go_roundw
      case rel => exact ⟨m / 128, W ++ [UInt8.ofNat (m % 128 + 128)], _, by simp, rfl, by omega, by have := HW.out; rw [HE.out] at this; rw [List.append_assoc]; exact this, by rw [List.length_append, bytesOf_append]; exact HO1.out, HB1.out⟩
      case measure => simp [intOf]; omega
theorem refText_any (s : ByteArray) (hs : s.size ≤ 140737488355328) (w : World) :
    Calls Try.prog 37 #[.string s] w fun e w' => e = .returned (.string ⟨(textOf s).toArray⟩) ∧ Below w.heap.size w w' := by
  have hw1 : IntKind.u64.wrap (s.size : Int) = (s.size : Int) := IntWalk.u64_in _ (by omega)
  have h10 := short_ten (x := s.size) (by omega)
  have HS := Lib.hid (fun W => refShort_any s.size (by omega) W)
  have hq : ¬ (9223372036854775807 < (short s.size).length + s.size) := by omega
  have hcat : ByteArray.mk (short s.size).toArray ++ s = ⟨(textOf s).toArray⟩ := bytes_eq (by unfold textOf; simp)
  have HC := Lib.hid hcat
  clear hcat
  go_enter Try.func37, Try.ntmps37
  go_wp2_with (go_at_call 35; (with_reducible refine (HS.out _).mono ?_); rintro e w1 ⟨rfl, hb⟩; have HB := Lib.hid hb; clear hb)
  go_ret
  exact ⟨by rw [HC.out]; rfl, HB.out⟩
end Go.Proofs.Ytbbcgafkpobndaa
