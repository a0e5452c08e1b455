/- Walks of layer 2: the writer's short numbers, raw bytes and texts. -/
import Derived.Test.YtbbcgafkpobndaaPackW2
set_option linter.unusedVariables false
set_option linter.unusedSimpArgs false
namespace Go.Proofs.Ytbbcgafkpobndaa
open Go.RowKit PackMath

theorem or128 (m : Nat) : bits BinOp.or IntKind.u8 ((m : Int) % 256) 128 = (((UInt8.ofNat (m % 128 + 128)).toNat : Nat) : Int) := by
  have e : ((m : Int) % 256) = ((m % 256 : Nat) : Int) := by omega
  have h := u8_or_nat (m % 256) 128 (by omega) (by decide)
  rw [e]
  refine h.trans ?_
  have hall : ∀ x : Fin 256, x.val ||| 128 = x.val % 128 + 128 := by decide +kernel
  have h2 := hall ⟨m % 256, by omega⟩
  simp only at h2
  rw [h2, UInt8.toNat_ofNat']
  omega
theorem last_byte (m : Nat) (h : m < 128) : (m : Int) % 256 = (((UInt8.ofNat m).toNat : Nat) : Int) := by
  rw [UInt8.toNat_ofNat']
  omega

theorem alloc_drew {w w1 : World} {o : Obj} {r : Option Nat} (hg : (w.alloc o).grownBy w1 r) : (w.drew.alloc o).grownBy w1 r := ⟨hg.os, hg.tape, hg.output, hg.size, hg.block⟩

set_option maxHeartbeats 2000000 in
set_option maxRecDepth 100000 in
theorem short_any (B p : Nat) (x : Nat) (hx : x < 18446744073709551616) (w : World) (v : Value) (bs : List UInt8) (h : IsWr B w p v bs) (hB : B ≤ w.heap.size) (hl : bs.length + 10 ≤ 140737488355328) :
    Calls Try.prog 14 #[.pointer (some ⟨p, 0, none⟩), .int .u64 x] w fun e w' => e = .returned (.tuple #[]) ∧ ∃ v', IsWr B w' p v' (bs ++ short x) ∧ Moved w w' p v v' := by
  obtain ⟨i0, hi, hz0, hz1, hz2⟩ := info_parts infoU8
  have HX := Lib.hid (short_ten hx)
  go_enter Try.func14, Try.ntmps14
  go_wp2
  go_loopw [1] (fun xv wr => ∃ (m : Nat) (W : List UInt8) (v' : Value), xv = .int .u64 m ∧ m < 18446744073709551616 ∧ W ++ short m = short x ∧ IsWr B wr p v' (bs ++ W) ∧ Moved w wr p v v') (fun xv _ => (intOf xv).toNat)
  case atStart => exact ⟨x, [], v, rfl, hx, rfl, by simpa using h, Moved.refl _ _ _⟩
  case round =>
    obtain ⟨m, W, v', rfl, hm, hW, hwr, hmv⟩ := hrel
    have hcell : wr.cell? ⟨p, 0, none⟩ = some v' := by rw [cell_of_row _ _ _ _ _ _ hwr.cell]; rfl
    have hfr := frozen_of_row wr p 0 _ _ hwr.cell
    have hca : ∀ o, (wr.alloc o).cell? ⟨p, 0, none⟩ = some v' := fun o => (World.cell?_alloc_lt _ _ _ (World.block_lt_of_cell? wr _ hcell)).trans hcell
    have hbl : (bs ++ W).length + 1 ≤ 140737488355328 := by
      have := congrArg List.length hW
      have h1 := short_pos m
      have h2 := HX.out
      rw [List.length_append] at this
      simp; omega
    have HBL := Lib.hid hbl
    have HBM := Lib.hid (show (bs ++ W).length + 1 ≤ maxLen by unfold maxLen; omega)
    have HS0 := Lib.hid (Nat.le_trans hB hmv.size)
    have HW := Lib.hid hW; have HR := Lib.hid hwr; have HM := Lib.hid hmv
    clear hW hwr hmv hbl
    by_cases hlt : m < 128
    · have hd : decide ((127 : Int) < (m : Int)) = false := by simp; omega
      have HE := Lib.hid (short_small hlt)
      have HVAL : Hid ((m : Int) = (((UInt8.ofNat m).toNat : Nat) : Int)) := Lib.hid (by rw [UInt8.toNat_ofNat']; omega)
      go_wp2_with (refine wpList_append_lies _ rfl (.tmp 26) (.tmp 29) 26 rfl B 5 i0 (.int .u8 0) 1 1 Try.underlying26 hi hz0 hz1 hz2 rfl (by decide) v' (bs ++ W).length (bytesOf (bs ++ W)) rfl (HR.out.own.alloc _) ⟨wr.heap.size, 0, none⟩ 1 1 [.int .u8 (m : Int)] rfl rfl (cells_one _ _ _) (by rw [HVAL.out]; exact one_byte _) (by decide) HBM.out (by have := HBL.out; omega) (by have := HS0.out; simp; omega) (wr.heap.size + 1) (by simp) ?_; intro g cap w1 hown hg hat hlt2; obtain ⟨hc1, hf1⟩ := wr_mid HR.out (o := .cells #[.int .u8 (m : Int)] 5) (alloc_drew hg))
      go_end0
      rw [HVAL.out] at hown
      have HS := wr_step HR.out hown (alloc_drew hg) (hat.imp (fun e => e.symm) (fun e => by rw [e]; rfl))
      rw [List.length_append] at HS
      refine ⟨rfl, _, ?_, HM.out.trans HS.2⟩
      have HW2 : W ++ [UInt8.ofNat m] = short x := by rw [← HW.out, HE.out]
      rw [← HW2, ← List.append_assoc]
      exact HS.1
    · have hd : decide ((127 : Int) < (m : Int)) = true := by simp; omega
      have hval := or128 m
      have HE := Lib.hid (short_great hlt)
      generalize UInt8.ofNat (m % 128 + 128) = b at hval HE
      go_wp2_with (refine wpList_append_lies _ rfl (.tmp 14) (.tmp 18) 26 rfl B 5 i0 (.int .u8 0) 1 1 Try.underlying26 hi hz0 hz1 hz2 rfl (by decide) v' (bs ++ W).length (bytesOf (bs ++ W)) rfl (HR.out.own.alloc _) ⟨wr.heap.size, 0, none⟩ 1 1 [.int .u8 (b.toNat : Nat)] rfl rfl (cells_one _ _ _) (one_byte b) (by decide) HBM.out (by have := HBL.out; omega) (by have := HS0.out; simp; omega) (wr.heap.size + 1) (by simp) ?_; intro g cap w1 hown hg hat hlt2; obtain ⟨hc1, hf1⟩ := wr_mid HR.out (o := .cells #[.int .u8 (b.toNat : Nat)] 5) (alloc_drew hg))
      have HS := Lib.hid (wr_step HR.out hown (alloc_drew hg) (hat.imp (fun e => e.symm) (fun e => by rw [e]; rfl)))
      rw [List.length_append] at HS
      have HW2 : Hid ((W ++ [b]) ++ short (m / 128) = short x) := by have := HW.out; rw [HE.out] at this; rw [List.append_assoc]; exact this
      have HS1 : Hid (IsWr B (w1.setCell ⟨p, 0, none⟩ (.slice (some ⟨g, 0, none⟩) (bs.length + W.length + 1) cap)) p (.slice (some ⟨g, 0, none⟩) (bs.length + W.length + 1) cap) (bs ++ (W ++ [b]))) := by rw [← List.append_assoc]; exact HS.out.1
      clear hown hg hat hlt2 hc1 hf1
      go_roundw
      case rel => exact ⟨m / 128, W ++ [b], _, by simp, by omega, HW2.out, HS1.out, HM.out.trans HS.out.2⟩
      case measure => simp [intOf]; omega
end Go.Proofs.Ytbbcgafkpobndaa
