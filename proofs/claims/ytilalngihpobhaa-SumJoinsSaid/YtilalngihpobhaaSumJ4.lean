/- Walks of layer 1: the document's Join; the laws SumJoin and SumJoins. -/
import Derived.Test.YtilalngihpobhaaSumJ3
namespace Go.Proofs.Ytilalngihpobhaa
open Go.RowKit SumMath

theorem make32 (w : World) : (Instr.makeSlice 44 (.int .i64 32) (.int .i64 32)).run Try.prog w = .ok (.slice (some ⟨w.heap.size, 0, none⟩) 32 32) (w.alloc (.cells (img (fun _ => 0)) 24)) := by
  rw [← img_zero]; kernel_rfl

set_option maxHeartbeats 2000000 in
set_option maxRecDepth 100000 in
theorem refjoin_any (a b : Nat) (n : Int) (ha : a < 4294967296) (hb : b < 4294967296) (hn : n ≤ 9223372036854775807) (w : World) :
    Calls Try.prog 15 #[.int .u32 a, .int .u32 b, .int .i64 n] w fun e w' => e = .returned (.int .u32 (join a b n.toNat : Nat)) ∧ Below w.heap.size w w' := by
  have hmk := make32
  go_enter Try.func15, Try.ntmps15
  go_wp2
  have h0 : (w.alloc (.cells (img (fun _ => 0)) 24)).heap[w.heap.size]? = some (.cells (img (fun _ => 0)) 24 (0, 0)) := heap_alloc_new _ _
  have hB0 : Below w.heap.size w (w.alloc (.cells (img (fun _ => 0)) 24)) := bl_alloc (Below.refl _ _) _
  generalize w.alloc (.cells (img (fun _ => 0)) 24) = w0 at h0 hB0 ⊢
  have H0 := Lib.hid h0; have HB := Lib.hid hB0
  clear h0 hB0
  go_loopw [8] (fun i wr => ∃ k : Nat, k ≤ 32 ∧ i = .int .i64 k ∧ wr.heap[w.heap.size]? = some (.cells (img (made 8 k)) 24 (0, 0)) ∧ Below w.heap.size w wr) (fun i _ => 32 - (intOf i).toNat)
  case atStart => exact ⟨0, Nat.zero_le _, rfl, H0.out.trans (by rw [img_congr (g := made 8 0) (fun i _ => by unfold made; simp)]), HB.out⟩
  case round =>
    obtain ⟨k, hk, rfl, hT, hbr⟩ := hrel
    have HT := Lib.hid hT; have HR := Lib.hid hbr
    clear hT hbr
    by_cases hlt : k < 32
    · have hki : decide ((k : Int) < 32) = true := by simp; omega
      have hki2 : (k : Int) < 32 := by omega
      have hcell := img_cell HT.out hlt
      have hfr := frozen_of_row wr w.heap.size k _ _ HT.out
      obtain ⟨q, hq⟩ : ∃ q, 2 ^ k = q := ⟨_, rfl⟩
      have hsh := shl_one k hlt
      have HM := Lib.hid (made_step 8 k hlt)
      have hql := pow_lt k hlt
      rw [hq] at hsh hql HM
      clear hq
      go_wp2
      go_loop [9, 10] (fun c i => ∃ j : Nat, j ≤ 8 ∧ i = .int .i64 j ∧ c = .int .u32 (turns j q : Nat)) (fun _ i => 8 - (intOf i).toNat)
      case atStart => exact ⟨0, Nat.zero_le _, rfl, rfl⟩
      case round =>
        obtain ⟨j, hj, rfl, rfl⟩ := hrel
        have hpl := turns_lt j hql
        by_cases hj8 : j < 8
        · have hji : decide ((j : Int) < 8) = true := by simp; omega
          have HS := Lib.hid (turns_succ' j q)
          go_wp2_with (go_at_call 18; refine (refturn_any _ hpl _).mono ?_; rintro e w' ⟨rfl, rfl⟩)
          go_round
          case rel => exact ⟨j + 1, by omega, by go_num, by rw [HS.out]⟩
          case measure => simp [intOf]; omega
        · obtain rfl : j = 8 := by omega
          have HS := Lib.hid (img_store HT.out hlt (turns 8 q))
          have HSB := Lib.hid (HR.out.setCell (p := ⟨w.heap.size, k, none⟩) (Nat.le_refl _) (.int .u32 ((turns 8 q : Nat) : Int)))
          go_wp2
          go_roundw
          case rel => exact ⟨k + 1, by omega, by go_num, by rw [HS.out, HM.out], HSB.out⟩
          case measure => simp [intOf]; omega
    · obtain rfl : k = 32 := by omega
      have HT2 := HT.out
      rw [made_all] at HT2
      have HT3 := Lib.hid HT2
      clear HT2 HT
      go_wp2
      rw [show (((32 : Nat) : Int)) = 32 from rfl]
      go_loopw [0, 2, 7] (fun av nv tv wr => ∃ (z : Int) (K A bt : Nat), nv = .int .i64 z ∧ av = .int .u32 A ∧ tv = .slice (some ⟨bt, 0, none⟩) 32 32 ∧ w.heap.size ≤ bt ∧ z ≤ 9223372036854775807 ∧ A < 4294967296 ∧ turns (K * z.toNat) A = turns (8 * n.toNat) a ∧
          wr.heap[bt]? = some (.cells (img (fun i => turns K (2 ^ i))) 24 (0, 0)) ∧ Below w.heap.size w wr) (fun _ nv _ _ => (intOf nv).toNat)
      case atStart => exact ⟨n, 8, a, w.heap.size, rfl, rfl, rfl, Nat.le_refl _, hn, ha, rfl, HT3.out, HR.out⟩
      case round =>
        obtain ⟨z, K, A, bt, rfl, rfl, rfl, hbt, hz, hA, hinv, hT, hbr⟩ := hrel
        have HT := Lib.hid hT; have HR := Lib.hid hbr; have HV := Lib.hid hinv
        clear hT hbr hinv
        by_cases hz0 : 0 < z
        · obtain ⟨m, rfl⟩ : ∃ m : Nat, z = m := ⟨z.toNat, by omega⟩
          rw [Int.toNat_natCast] at HV
          have hmd : decide (0 < m) = true := by simp; omega
          have HFT := Lib.hid (show ∀ i, i < 32 → turns K (2 ^ i) < 4294967296 from fun i hi => turns_lt K (pow_lt i hi))
          have HC := Lib.hid (show ∀ i, i < 32 → wr.cell? ⟨bt, 0 + i, none⟩ = some (.int .u32 (turns K (2 ^ i) : Nat)) from fun i hi => by rw [Nat.zero_add]; exact img_cell HT.out hi)
          have HLT := Lib.hid (Array.getElem?_eq_some_iff.1 HT.out).1
          by_cases ho : m % 2 = 1
          all_goals first | (
            have ho1 : m % 2 = 1 := ho
            clear ho1
            have hodd : ((m : Int) % 2 == 1) = true := by rw [show (m : Int) % 2 = 1 from by omega]; rfl
            have HV2 := Lib.hid ((inv_odd (K := K) (A := A) ho).trans HV.out)
            have HA2 := Lib.hid (turns_lt K hA)
            have HX := Lib.hid (thru_all K A hA)
            clear ho HV
            go_wp2_with (go_at_call 21; refine (through_any _ 32 bt 0 rfl A hA (fun i => turns K (2 ^ i)) HFT.out _ HC.out).mono ?_; rintro e w' ⟨rfl, rfl⟩; rw [HX.out])
            clear HX hodd
            generalize turns K A = A2 at HV2 HA2 ⊢) | (
            have hodd : ((m : Int) % 2 == 1) = false := by rw [show (m : Int) % 2 = 0 from by omega]; rfl
            have HV2 := Lib.hid ((inv_even (K := K) (A := A) (by omega : m % 2 = 0)).trans HV.out)
            have HA2 := Lib.hid hA
            clear ho HV
            go_wp2
            clear hodd hA
            generalize A = A2 at HV2 HA2 ⊢)
          all_goals
            have HZ := Lib.hid (heap_alloc_new wr (.cells (img (fun _ => 0)) 24))
            have HT1 := Lib.hid ((heap_alloc_old wr (.cells (img (fun _ => 0)) 24) HLT.out).trans HT.out)
            have HBB := Lib.hid (bl_alloc HR.out (.cells (img (fun _ => 0)) 24))
            have HL2 := HLT
            have hws := HR.out.size
            clear HLT HT HR HC
            generalize wr.alloc (.cells (img (fun _ => 0)) 24) = wb at HZ HT1 HBB ⊢
            generalize wr.heap.size = b2 at HZ HL2 hws ⊢
            have HBN := Lib.hid (show bt ≠ b2 by have := HL2.out; omega)
            go_loopw [12] (fun i wi => ∃ k : Nat, k ≤ 32 ∧ i = .int .i64 k ∧ wi.heap[b2]? = some (.cells (img (made (K + K) k)) 24 (0, 0)) ∧ wi.heap[bt]? = some (.cells (img (fun i => turns K (2 ^ i))) 24 (0, 0)) ∧ Below w.heap.size w wi) (fun i _ => 32 - (intOf i).toNat)
            case atStart => exact ⟨0, Nat.zero_le _, rfl, HZ.out.trans (by rw [img_congr (g := made (K + K) 0) (fun i _ => by unfold made; simp)]), HT1.out, HBB.out⟩
            case round =>
              obtain ⟨k, hk, rfl, hM, hT, hbr⟩ := hrel
              have HM := Lib.hid hM; have HT := Lib.hid hT; have HR := Lib.hid hbr
              clear hM hT hbr
              by_cases hlt : k < 32
              · have hki : decide ((k : Int) < 32) = true := by simp; omega
                have hki2 : (k : Int) < 32 := by omega
                have hpk := HFT.out k hlt
                have HX := Lib.hid ((thru_all K (turns K (2 ^ k)) hpk).trans (turns_twice K (2 ^ k)))
                have HC := Lib.hid (show ∀ i, i < 32 → wr.cell? ⟨bt, 0 + i, none⟩ = some (.int .u32 (turns K (2 ^ i) : Nat)) from fun i hi => by rw [Nat.zero_add]; exact img_cell HT.out hi)
                have hcell := img_cell HM.out hlt
                have hcell2 : wr.cell? ⟨bt, k, none⟩ = some (.int .u32 (turns K (2 ^ k) : Nat)) := img_cell HT.out hlt
                have hfr := frozen_of_row wr b2 k _ _ HM.out
                have HS := Lib.hid (img_store HM.out hlt (turns (K + K) (2 ^ k)))
                have HST := Lib.hid (made_step (K + K) k hlt)
                go_wp2_with (go_at_call 21; refine (through_any _ 32 bt 0 rfl _ hpk (fun i => turns K (2 ^ i)) HFT.out _ HC.out).mono ?_; rintro e w' ⟨rfl, rfl⟩; rw [HX.out])
                go_roundw
                case rel => exact ⟨k + 1, by omega, by go_num, HS.out.trans (by rw [HST.out]), (heap_setCell_other _ _ _ _ HBN.out).trans HT.out, Below.setCell (p := ⟨b2, k, none⟩) HR.out hws _⟩
                case measure => simp [intOf]; omega
              · obtain rfl : k = 32 := by omega
                have HM2 := HM.out
                rw [made_all] at HM2
                have HM3 := Lib.hid HM2
                clear HM2 HM
                go_wp2
                go_roundw
                case rel => exact ⟨(m : Int) / 2, K + K, A2, b2, rfl, rfl, rfl, hws, by omega, HA2.out, by rw [show ((m : Int) / 2).toNat = m / 2 from by omega]; exact HV2.out, HM3.out, HR.out⟩
                case measure => simp [intOf]; omega
        · have hz1 : z.toNat = 0 := by omega
          have HF : Hid (A = turns (8 * n.toNat) a) := by have := HV.out; rw [hz1] at this; exact this
          have hx := b32_xor A b hA hb
          clear hz1
          go_wp2
          go_ret
          exact ⟨ret_int (by rw [HF.out]; rfl), HR.out⟩

set_option maxHeartbeats 1000000 in
theorem sumJoin_any (a b : Nat) (n : Int) (ha : a < 4294967296) (hb : b < 4294967296) (hn : n ≤ 9223372036854775807) (hn0 : -9223372036854775808 ≤ n) (w : World) :
    Calls Try.prog 7 #[.int .u32 a, .int .u32 b, .int .i64 n] w fun e w' => e = .returned (.bool true) ∧ Below w.heap.size w w' := by
  have he : (((join a b n.toNat : Nat) : Int) == ((join a b n.toNat : Nat) : Int)) = true := by simp
  go_enter Try.func7, Try.ntmps7
  go_wp2_with (go_at_call 9; refine (known_any _).mono ?_; rintro e w1 ⟨rfl, hb1⟩)
  refine (join_any a b n ha hb hn hn0 _).mono ?_
  rintro e w2 ⟨rfl, hb2⟩
  go_wp2_with fail
  refine (refjoin_any a b n ha hb hn _).mono ?_
  rintro e w3 ⟨rfl, hb3⟩
  go_wp2
  go_ret
  exact ⟨rfl, bl_trans (bl_trans hb1 hb2) hb3⟩
end Go.Proofs.Ytilalngihpobhaa
