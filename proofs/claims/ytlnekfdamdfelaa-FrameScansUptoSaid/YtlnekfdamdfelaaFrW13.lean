/- Walk of layer 7: what bytes are read as, and their beginnings. -/
import Derived.Test.YtlnekfdamdfelaaFrW12
import Derived.Test.YtlnekfdamdfelaaFrW3
set_option linter.unusedVariables false
set_option linter.unusedSimpArgs false
namespace Go.Proofs.Ytlnekfdamdfelaa
open Go.RowKit PackMath SumMath FrMath

set_option maxRecDepth 100000 in
set_option maxHeartbeats 1000000 in
theorem decodesIs (s : ByteArray) (hs : s.size ≤ 1099511627776) (w : World) : Calls Try.prog 7 #[.string s] w fun e w' => e = .returned (.bool true) ∧ Below w.heap.size w w' := by
  have HSC := Lib.hid (fun W => scannedIs s hs W)
  go_enter Try.func7, Try.ntmps7
  go_wp2_with (go_at_call 9; refine (fFrames _).mono ?_; rintro e w1 ⟨rfl, hb⟩; have HB1 := Lib.hid hb; clear hb)
  · go_loopw [22] (fun iv wr => ∃ k : Nat, k ≤ 41 ∧ iv = .int .i64 k ∧ Below w.heap.size w wr) (fun iv _ => 41 - (intOf iv).toNat)
    case atStart => exact ⟨0, Nat.zero_le _, rfl, HB1.out⟩
    case round =>
      obtain ⟨k, hk, rfl, hb⟩ := hrel
      have HB := Lib.hid hb
      clear hb
      by_cases hlt : k < 41
      · obtain ⟨E, K, b, n, hD⟩ : ∃ E K b n, decP (s.extract 0 k) = (E, (K, (b, n))) := ⟨_, _, _, _, rfl⟩
        have hex : (s.extract 0 k).size < 281474976710656 := by rw [ByteArray.size_extract]; omega
        have H1 := Lib.hid (fun W => decF_of hD hex W)
        have H2 := Lib.hid (fun W => xdecF_of hD hex W)
        have hks : (k : Int) ≤ s.size := by omega
        have hdk : decide ((k : Int) < 41) = true := by simp; omega
        clear hD
        go_wp2_with (first
          | (go_at_call 13; (with_reducible refine (H1.out _).mono ?_); rintro r w2 ⟨rfl, hb⟩; have HB2 := Lib.hid (bl_alloc (bl_trans HB.out hb) (.cells #[.int .i64 (K : Nat), .string b] 25)); clear hb)
          | (go_at_call 19; (with_reducible refine (H2.out _).mono ?_); rintro r w3 ⟨rfl, hb⟩; have hba := bl_alloc hb (.cells #[.int .i64 (K : Nat), .string b] 25); have c0 := bl_cell hba (b := w2.heap.size) (o := 0) (v := .int .i64 (K : Nat)) (by rw [World.cell?_alloc_new]; rfl); have c1 := bl_cell hba (b := w2.heap.size) (o := 1) (v := .string b) (by rw [World.cell?_alloc_mark]; rfl); have HB3 := Lib.hid (bl_alloc (bl_trans HB2.out hb) (.cells #[.int .i64 (K : Nat), .string b] 25)); clear hb hba))
        go_roundw
        case rel => exact ⟨k + 1, by omega, by go_num, HB3.out⟩
        case measure => simp [intOf]; omega
      · have hdk : decide ((k : Int) < 41) = false := by simp; omega
        obtain ⟨E, K, b, n, hD⟩ : ∃ E K b n, decP s = (E, (K, (b, n))) := ⟨_, _, _, _, rfl⟩
        have H1 := Lib.hid (fun W => decF_of hD (by omega) W)
        have H2 := Lib.hid (fun W => xdecF_of hD (by omega) W)
        clear hD
        go_wp2_with (first
          | (go_at_call 13; (with_reducible refine (H1.out _).mono ?_); rintro r w2 ⟨rfl, hb⟩; have HB2 := Lib.hid (bl_alloc (bl_trans HB.out hb) (.cells #[.int .i64 (K : Nat), .string b] 25)); clear hb)
          | (go_at_call 19; (with_reducible refine (H2.out _).mono ?_); rintro r w3 ⟨rfl, hb⟩; have hba := bl_alloc hb (.cells #[.int .i64 (K : Nat), .string b] 25); have c0 := bl_cell hba (b := w2.heap.size) (o := 0) (v := .int .i64 (K : Nat)) (by rw [World.cell?_alloc_new]; rfl); have c1 := bl_cell hba (b := w2.heap.size) (o := 1) (v := .string b) (by rw [World.cell?_alloc_mark]; rfl); have HB3 := Lib.hid (bl_alloc (bl_trans HB2.out hb) (.cells #[.int .i64 (K : Nat), .string b] 25)); clear hb hba)
          | (go_at_call 20; (with_reducible refine (HSC.out _).mono ?_); rintro r w4 ⟨rfl, hb⟩; have HB4 := Lib.hid (bl_trans HB3.out hb); clear hb))
        go_ret
        exact ⟨rfl, HB4.out⟩
  · go_loopw [22] (fun iv wr => ∃ k : Nat, k ≤ (s.size + 1) ∧ iv = .int .i64 k ∧ Below w.heap.size w wr) (fun iv _ => (s.size + 1) - (intOf iv).toNat)
    case atStart => exact ⟨0, Nat.zero_le _, rfl, HB1.out⟩
    case round =>
      obtain ⟨k, hk, rfl, hb⟩ := hrel
      have HB := Lib.hid hb
      clear hb
      by_cases hlt : k < (s.size + 1)
      · obtain ⟨E, K, b, n, hD⟩ : ∃ E K b n, decP (s.extract 0 k) = (E, (K, (b, n))) := ⟨_, _, _, _, rfl⟩
        have hex : (s.extract 0 k).size < 281474976710656 := by rw [ByteArray.size_extract]; omega
        have H1 := Lib.hid (fun W => decF_of hD hex W)
        have H2 := Lib.hid (fun W => xdecF_of hD hex W)
        have hks : (k : Int) ≤ s.size := by omega
        have hdk : decide ((k : Int) < ((s.size : Int) + 1)) = true := by simp; omega
        clear hD
        go_wp2_with (first
          | (go_at_call 13; (with_reducible refine (H1.out _).mono ?_); rintro r w2 ⟨rfl, hb⟩; have HB2 := Lib.hid (bl_alloc (bl_trans HB.out hb) (.cells #[.int .i64 (K : Nat), .string b] 25)); clear hb)
          | (go_at_call 19; (with_reducible refine (H2.out _).mono ?_); rintro r w3 ⟨rfl, hb⟩; have hba := bl_alloc hb (.cells #[.int .i64 (K : Nat), .string b] 25); have c0 := bl_cell hba (b := w2.heap.size) (o := 0) (v := .int .i64 (K : Nat)) (by rw [World.cell?_alloc_new]; rfl); have c1 := bl_cell hba (b := w2.heap.size) (o := 1) (v := .string b) (by rw [World.cell?_alloc_mark]; rfl); have HB3 := Lib.hid (bl_alloc (bl_trans HB2.out hb) (.cells #[.int .i64 (K : Nat), .string b] 25)); clear hb hba))
        go_roundw
        case rel => exact ⟨k + 1, by omega, by go_num, HB3.out⟩
        case measure => simp [intOf]; omega
      · have hdk : decide ((k : Int) < ((s.size : Int) + 1)) = false := by simp; omega
        obtain ⟨E, K, b, n, hD⟩ : ∃ E K b n, decP s = (E, (K, (b, n))) := ⟨_, _, _, _, rfl⟩
        have H1 := Lib.hid (fun W => decF_of hD (by omega) W)
        have H2 := Lib.hid (fun W => xdecF_of hD (by omega) W)
        clear hD
        go_wp2_with (first
          | (go_at_call 13; (with_reducible refine (H1.out _).mono ?_); rintro r w2 ⟨rfl, hb⟩; have HB2 := Lib.hid (bl_alloc (bl_trans HB.out hb) (.cells #[.int .i64 (K : Nat), .string b] 25)); clear hb)
          | (go_at_call 19; (with_reducible refine (H2.out _).mono ?_); rintro r w3 ⟨rfl, hb⟩; have hba := bl_alloc hb (.cells #[.int .i64 (K : Nat), .string b] 25); have c0 := bl_cell hba (b := w2.heap.size) (o := 0) (v := .int .i64 (K : Nat)) (by rw [World.cell?_alloc_new]; rfl); have c1 := bl_cell hba (b := w2.heap.size) (o := 1) (v := .string b) (by rw [World.cell?_alloc_mark]; rfl); have HB3 := Lib.hid (bl_alloc (bl_trans HB2.out hb) (.cells #[.int .i64 (K : Nat), .string b] 25)); clear hb hba)
          | (go_at_call 20; (with_reducible refine (HSC.out _).mono ?_); rintro r w4 ⟨rfl, hb⟩; have HB4 := Lib.hid (bl_trans HB3.out hb); clear hb))
        go_ret
        exact ⟨rfl, HB4.out⟩
end Go.Proofs.Ytlnekfdamdfelaa
