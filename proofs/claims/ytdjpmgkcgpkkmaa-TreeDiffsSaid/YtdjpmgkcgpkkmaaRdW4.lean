/- Walks of layer 2: numbers of the document's reader, and of one, two, four, eight bytes. -/
import Derived.Test.YtdjpmgkcgpkkmaaRdW3
set_option linter.unusedVariables false
set_option linter.unusedSimpArgs false
namespace Go.Proofs.Ytdjpmgkcgpkkmaa
open Go.RowKit PackMath

theorem mid_take (s : ByteArray) (a k n : Nat) (h : k < n) (h2 : a + n ≤ s.size) : num ((s.data.toList.drop a).take (k + 1)) = num ((s.data.toList.drop a).take k) * 256 + (s[a + k]'(by omega)).toNat := by
  have hl : k < (s.data.toList.drop a).length := by rw [List.length_drop]; have : s.data.toList.length = s.size := by simp; 
                                                    omega
  rw [List.take_succ_eq_append_getElem hl, num_snoc, List.getElem_drop]
  rfl

theorem idx_at (s : ByteArray) (a k : Nat) (h : a + k < s.size) (W : World) : (Instr.index 9 (.string s) (.int .i64 ((a : Int) + k))).run Try.prog W = .ok (.int .u8 (s[a + k].toNat : Nat)) W := by
  rw [run_index_string W _ _ _ _ Try.underlying9, dif_pos (by omega)]
  simp only [show ((a : Int) + k).toNat = a + k from by omega]

set_option maxHeartbeats 800000 in
set_option maxRecDepth 100000 in
theorem xNumber (p : Nat) (s : ByteArray) (a e n : Nat) (w : World) (h : IsRd TX w p s a e) (hn : n ≤ 8) :
    Calls Try.prog 64 #[.pointer (some ⟨p, 0, none⟩), .int .i64 n] w fun r w' => r = .returned (.tuple #[.int .u64 (numR s a e n).1.1, .int .i64 (numR s a e n).1.2]) ∧ Kept w w' p ∧ IsRd TX w' p s (numR s a e n).2.1 (numR s a e n).2.2 := by
  obtain ⟨c0, c1, c2, f0, f1, f2⟩ := h.cells
  have hle := h.le
  have hsm := h.small
  have HR := Lib.hid h
  clear h
  by_cases he : e = 0
  · subst he
    by_cases hg : s.size - a < n
    · have hd2 : decide ((s.size : Int) - a < (n : Int)) = true := by simp; omega
      have HG := Lib.hid hg
      clear hg
      go_enter Try.func64, Try.ntmps64
      go_wp2_with (go_at_call 79; refine (xLeft p s a 0 w HR.out).mono ?_; rintro r w1 ⟨rfl, hk⟩; have HK := Lib.hid hk; clear hk)
      go_wp2_with (go_at_call 80; refine (xFail_at p s a w1 _ 2 rfl HK.out.2).mono ?_; rintro r w2 ⟨rfl, hk⟩; have HK2 := Lib.hid hk; clear hk)
      go_ret2
      rw [numR_short (by have := HG.out; omega)]
      exact ⟨rfl, HK.out.1.trans HK2.out.1, HK2.out.2⟩
    · have hd2 : decide ((s.size : Int) - a < (n : Int)) = false := by simp; omega
      have hb : a + n ≤ s.size := by omega
      have HB := Lib.hid hb
      clear hg
      go_enter Try.func64, Try.ntmps64
      go_wp2_with (go_at_call 79; refine (xLeft p s a 0 w HR.out).mono ?_; rintro r w1 ⟨rfl, hk⟩; have HK := Lib.hid hk; clear hk)
      go_loopw [6, 7] (fun v i wr => ∃ k : Nat, k ≤ n ∧ i = .int .i64 k ∧ v = .int .u64 (num ((s.data.toList.drop a).take k)) ∧ Kept w1 wr p ∧ IsRd TX wr p s a 0) (fun _ i _ => n - (intOf i).toNat)
      case atStart => exact ⟨0, Nat.zero_le _, rfl, rfl, Kept.refl _ _, HK.out.2⟩
      case round =>
        obtain ⟨k, hk, rfl, rfl, hkp, hrd⟩ := hrel
        obtain ⟨d0, d1, d2, g0, g1, g2⟩ := hrd.cells
        have HKP := Lib.hid hkp; have HRD := Lib.hid hrd
        clear hkp hrd
        by_cases hlt : k < n
        · have hd : decide ((k : Int) < (n : Int)) = true := by simpa using hlt
          have hel := num_take_lt (s.data.toList.drop a) k (by omega)
          have HE := Lib.hid (mid_take s a k n hlt hb)
          generalize he : num ((s.data.toList.drop a).take k) = v at hel
          rw [he] at HE
          have hak : IntKind.i64.wrap ((a : Int) + k) = (a : Int) + k := IntWalk.i64_in _ (by omega)
          have hidx := idx_at s a k (by omega)
          generalize hx : s[a + k] = x at hidx
          rw [hx] at HE
          have hxl := x.toNat_lt
          have hm1 : IntKind.u64.wrap ((v : Int) * 256) = (v : Int) * 256 := IntWalk.u64_in _ (by omega)
          have hm2 : IntKind.u64.wrap ((v : Int) * 256 + (x.toNat : Int)) = (v : Int) * 256 + (x.toNat : Int) := IntWalk.u64_in _ (by omega)
          have hk1 : IntKind.i64.wrap ((k : Int) + 1) = (k : Int) + 1 := IntWalk.i64_in _ (by omega)
          go_wp2
          go_quiet (fail)
          go_wp2
          go_roundw
          case rel => exact ⟨k + 1, by omega, by go_num, by rw [HE.out]; first | rfl | (rw [Int.natCast_add, Int.natCast_mul]; rfl), HKP.out.trans ⟨rfl, rfl, rfl, Nat.le_refl _, fun _ _ _ => rfl⟩, HRD.out.cell, HRD.out.le, HRD.out.small⟩
          case measure => simp [intOf]; omega
        · obtain rfl : k = n := by omega
          have hd : decide ((k : Int) < (k : Int)) = false := by simp
          have ha1 : IntKind.i64.wrap ((a : Int) + k) = (a : Int) + k := IntWalk.i64_in _ (by omega)
          go_wp2
          go_ret2
          rw [numR_ok (by have := HB.out; omega)]
          exact ⟨rfl, (HK.out.1.trans HKP.out).trans (Kept.set _ _ _ _), HRD.out.at1 (a + k) HB.out⟩
  · have hd : ((e : Int) != 0) = true := by simp; omega
    have HE := Lib.hid he
    clear he
    go_enter Try.func64, Try.ntmps64
    go_wp2
    go_quiet (fail)
    go_wp2
    go_ret2
    rw [numR_err HE.out]
    exact ⟨rfl, ⟨rfl, rfl, rfl, Nat.le_refl _, fun _ _ _ => rfl⟩, HR.out.cell, HR.out.le, HR.out.small⟩
end Go.Proofs.Ytdjpmgkcgpkkmaa
