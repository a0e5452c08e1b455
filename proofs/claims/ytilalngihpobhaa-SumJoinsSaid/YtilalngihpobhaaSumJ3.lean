/- Walks of layer 1: Join of the program. -/
import Derived.Test.YtilalngihpobhaaSumJ2
namespace Go.Proofs.Ytilalngihpobhaa
open Go.RowKit SumMath

def img (f : Nat → Nat) : Array Value := ((List.range 32).map fun i => Value.int .u32 (f i : Nat)).toArray
theorem img_size (f : Nat → Nat) : (img f).size = 32 := by simp [img]
theorem img_get (f : Nat → Nat) (i : Nat) (h : i < 32) : (img f)[i]? = some (.int .u32 (f i : Nat)) := by simp [img, h]
theorem img_none (f : Nat → Nat) (i : Nat) (h : ¬ i < 32) : (img f)[i]? = none := by rw [Array.getElem?_eq_none]; rw [img_size]; omega
theorem img_congr {f g : Nat → Nat} (h : ∀ i, i < 32 → f i = g i) : img f = img g := by
  apply Array.ext_getElem?
  intro i
  by_cases hi : i < 32
  · rw [img_get _ _ hi, img_get _ _ hi, h i hi]
  · rw [img_none _ _ hi, img_none _ _ hi]
theorem img_set (f : Nat → Nat) (k v : Nat) (hk : k < 32) : (img f).setIfInBounds k (.int .u32 (v : Nat)) = img (fun i => if i = k then v else f i) := by
  apply Array.ext_getElem?
  intro i
  rw [Array.getElem?_setIfInBounds, img_size]
  by_cases hi : i < 32
  · rw [img_get _ _ hi, img_get _ _ hi]
    by_cases e : k = i
    · subst e; simp [hk]
    · simp [e, Ne.symm e]
  · rw [img_none _ _ hi, img_none _ _ hi]
    by_cases e : k = i
    · omega
    · simp [e]
theorem img_one (f : Nat → Nat) : (img f).all (·.oneCell') = true := by
  rw [Array.all_eq_true]
  intro i hi
  rw [img_size] at hi
  have h := img_get f i hi
  rw [Array.getElem?_eq_getElem (by rw [img_size]; exact hi)] at h
  rw [Option.some.inj h]
  rfl
theorem img_zero : (#[.int .u32 0, .int .u32 0, .int .u32 0, .int .u32 0, .int .u32 0, .int .u32 0, .int .u32 0, .int .u32 0, .int .u32 0, .int .u32 0, .int .u32 0, .int .u32 0, .int .u32 0, .int .u32 0, .int .u32 0, .int .u32 0, .int .u32 0, .int .u32 0, .int .u32 0, .int .u32 0, .int .u32 0, .int .u32 0, .int .u32 0, .int .u32 0, .int .u32 0, .int .u32 0, .int .u32 0, .int .u32 0, .int .u32 0, .int .u32 0, .int .u32 0, .int .u32 0] : Array Value) = img (fun _ => 0) := by rfl

section
variable {w : World} {b t : Nat} {f : Nat → Nat}
theorem img_cell (h : w.heap[b]? = some (.cells (img f) t (0, 0))) {i : Nat} (hi : i < 32) : w.cell? ⟨b, i, none⟩ = some (.int .u32 (f i : Nat)) := by
  rw [cell_of_row w b i _ t _ h, img_get _ _ hi]
theorem img_store (h : w.heap[b]? = some (.cells (img f) t (0, 0))) {k : Nat} (hk : k < 32) (v : Nat) :
    (w.setCell ⟨b, k, none⟩ (.int .u32 (v : Nat))).heap[b]? = some (.cells (img (fun i => if i = k then v else f i)) t (0, 0)) := by
  rw [heap_setCell_same w b k _ t _ h, img_set _ _ _ hk]
end

/-- The table after k rounds of making it. -/
def made (K k : Nat) : Nat → Nat := fun i => if i < k then turns K (2 ^ i) else 0
theorem made_step (K k : Nat) (_hk : k < 32) : img (fun i => if i = k then turns K (2 ^ k) else made K k i) = img (made K (k + 1)) := img_congr fun i _ => by
  unfold made
  by_cases e : i = k
  · subst e; simp
  · by_cases h : i < k
    · have : i < k + 1 := by omega
      simp [e, h, this]
    · have : ¬ i < k + 1 := by omega
      simp [e, h, this]
theorem made_all (K : Nat) : img (made K 32) = img (fun i => turns K (2 ^ i)) := img_congr fun i hi => by unfold made; rw [if_pos hi]
theorem set_twice (f : Nat → Nat) (k u v : Nat) : img (fun i => if i = k then v else (if i = k then u else f i)) = img (fun i => if i = k then v else f i) := img_congr fun i _ => by
  by_cases e : i = k <;> simp [e]

theorem shl_one (k : Nat) (hk : k < 32) : IntKind.u32.wrap (2 ^ k) = ((2 ^ k : Nat) : Int) := by
  have h := pow_lt k hk
  rw [IntKind.wrap_u32]
  have e : ((2 : Int) ^ k) = ((2 ^ k : Nat) : Int) := by simp
  rw [e]
  exact Int.emod_eq_of_lt (Int.natCast_nonneg _) (show ((2 ^ k : Nat) : Int) < ((4294967296 : Nat) : Int) from Int.ofNat_lt.2 h)

theorem size32 : (Try.prog.info? 43).map (fun i => (i.zero, i.size)) = some (some (.agg (img (fun _ => 0))), 32) := by rw [← img_zero]; kernel_rfl
theorem run_img (f : Nat → Nat) (k : Nat) (hk : k < 32) (w : World) : (Instr.index 43 (.agg (img f)) (.int .i64 k)).run Try.prog w = .ok (.int .u32 (f k : Nat)) w := by
  have h1 : (k : Int) < 32 := by omega
  have hg := img_get f k hk
  simp [Instr.index, asIntOf, part, go_sem, hg, h1]
  intro h
  omega

theorem i64_and1 (m : Nat) (hm : m ≤ 9223372036854775807) : bits .and .i64 (m : Int) 1 = ((m % 2 : Nat) : Int) := by
  have h := bits_mask .i64 63 (by decide) (fun n h0 h1 => IntWalk.i64_in n (by omega)) 1 (by decide) (m : Int) (by omega) (by omega)
  have e : ((2 : Int) ^ 1 - 1) = 1 := by decide
  rw [e] at h
  rw [h]
  omega

theorem inv_odd {K m A : Nat} (ho : m % 2 = 1) : turns ((K + K) * (m / 2)) (turns K A) = turns (K * m) A := by
  rw [← turns_add]
  congr 1
  have : m = 2 * (m / 2) + 1 := by omega
  conv => rhs; rw [this]
  rw [Nat.mul_add, Nat.add_mul, Nat.mul_one, Nat.mul_left_comm, Nat.two_mul]
  omega
theorem inv_even {K m A : Nat} (he : m % 2 = 0) : turns ((K + K) * (m / 2)) A = turns (K * m) A := by
  congr 1
  have : m = 2 * (m / 2) := by omega
  conv => rhs; rw [this]
  rw [Nat.add_mul, Nat.mul_left_comm, Nat.two_mul]

set_option maxHeartbeats 2000000 in
set_option maxRecDepth 100000 in
theorem join_any (a b : Nat) (n : Int) (ha : a < 4294967296) (hb : b < 4294967296) (hn : n ≤ 9223372036854775807) (hn0 : -9223372036854775808 ≤ n) (w : World) :
    Calls Try.prog 14 #[.int .u32 a, .int .u32 b, .int .i64 n] w fun e w' => e = .returned (.int .u32 (join a b n.toNat : Nat)) ∧ Below w.heap.size w w' := by
  go_enter Try.func14, Try.ntmps14
  go_wp2
  rw [img_zero]
  have h0 : (w.alloc (.cells (img (fun _ => 0)) 43)).heap[w.heap.size]? = some (.cells (img (fun _ => 0)) 43 (0, 0)) := heap_alloc_new _ _
  have hB0 : Below w.heap.size w (w.alloc (.cells (img (fun _ => 0)) 43)) := bl_alloc (Below.refl _ _) _
  generalize w.alloc (.cells (img (fun _ => 0)) 43) = w0 at h0 hB0 ⊢
  have H0 := Lib.hid h0; have HB := Lib.hid hB0
  clear h0 hB0
  go_loopw [12] (fun i wr => ∃ k : Nat, k ≤ 32 ∧ i = .int .i64 k ∧ wr.heap[w.heap.size]? = some (.cells (img (made 8 k)) 43 (0, 0)) ∧ Below w.heap.size w wr) (fun i _ => 32 - (intOf i).toNat)
  case atStart => exact ⟨0, Nat.zero_le _, rfl, H0.out.trans (by rw [img_congr (g := made 8 0) (fun i _ => by unfold made; simp)]), HB.out⟩
  case round =>
    obtain ⟨k, hk, rfl, hT, hbr⟩ := hrel
    have HT := Lib.hid hT; have HR := Lib.hid hbr
    clear hT hbr
    by_cases hlt : k < 32
    · have hki : decide ((k : Int) < 32) = true := by simp; omega
      have hki2 : (k : Int) < 32 := by omega
      have hcell := img_cell HT.out hlt
      have hfr := frozen_of_row wr w.heap.size k _ _ HT.out
      obtain ⟨q, hq⟩ : ∃ q, 2 ^ k = q := ⟨_, rfl⟩
      have hsh := shl_one k hlt
      have HM := Lib.hid (made_step 8 k hlt)
      have hql := pow_lt k hlt
      rw [hq] at hsh hql HM
      clear hq
      go_wp2
      have hA := img_store HT.out hlt q
      have hAB := HR.out.setCell (p := ⟨w.heap.size, k, none⟩) (Nat.le_refl _) (.int .u32 ((q : Nat) : Int))
      generalize wr.setCell ⟨w.heap.size, k, none⟩ (.int .u32 ((q : Nat) : Int)) = wa at hA hAB ⊢
      have HA := Lib.hid hA; have HAB := Lib.hid hAB
      clear hA hAB hcell hfr hsh
      go_loopw [19] (fun i wi => ∃ j : Nat, j ≤ 8 ∧ i = .int .i64 j ∧ wi.heap[w.heap.size]? = some (.cells (img (fun i => if i = k then turns j q else made 8 k i)) 43 (0, 0)) ∧ Below w.heap.size w wi) (fun i _ => 8 - (intOf i).toNat)
      case atStart => exact ⟨0, Nat.zero_le _, rfl, HA.out, HAB.out⟩
      case round =>
        obtain ⟨j, hj, rfl, hI, hIB⟩ := hrel
        have HI := Lib.hid hI; have HIB := Lib.hid hIB
        clear hI hIB
        by_cases hj8 : j < 8
        · have hji : decide ((j : Int) < 8) = true := by simp; omega
          have hpl := turns_lt j hql
          have hcell := img_cell HI.out hlt
          rw [if_pos rfl] at hcell
          have hfr := frozen_of_row wr w.heap.size k _ _ HI.out
          have HS := Lib.hid (img_store HI.out hlt (turn (turns j q)))
          have HSB := Lib.hid (HIB.out.setCell (p := ⟨w.heap.size, k, none⟩) (Nat.le_refl _) (.int .u32 ((turn (turns j q) : Nat) : Int)))
          go_wp2_with (go_at_call 19; refine (turn_any _ hpl _).mono ?_; rintro e w' ⟨rfl, rfl⟩)
          go_roundw
          case rel => exact ⟨j + 1, by omega, by go_num, by rw [HS.out, set_twice, turns_succ'], HSB.out⟩
          case measure => simp [intOf]; omega
        · obtain rfl : j = 8 := by omega
          go_wp2
          go_roundw
          case rel => exact ⟨k + 1, by omega, by go_num, by rw [HI.out, HM.out], HIB.out⟩
          case measure => simp [intOf]; omega
    · obtain rfl : k = 32 := by omega
      have HT2 := HT.out
      rw [made_all] at HT2
      have HT3 := Lib.hid HT2
      clear HT2 HT
      have HI := Lib.hid (zero_of_info size32).2
      go_wp2
      rw [show (((32 : Nat) : Int)) = 32 from rfl]
      go_loopw [0, 2] (fun av nv wr => ∃ (z : Int) (K A : Nat), nv = .int .i64 z ∧ av = .int .u32 A ∧ z ≤ 9223372036854775807 ∧ A < 4294967296 ∧ turns (K * z.toNat) A = turns (8 * n.toNat) a ∧
          wr.heap[w.heap.size]? = some (.cells (img (fun i => turns K (2 ^ i))) 43 (0, 0)) ∧ Below w.heap.size w wr) (fun _ nv _ => (intOf nv).toNat)
      case atStart => exact ⟨n, 8, a, rfl, rfl, hn, ha, rfl, HT3.out, HR.out⟩
      case round =>
        obtain ⟨z, K, A, rfl, rfl, hz, hA, hinv, hT, hbr⟩ := hrel
        have HT := Lib.hid hT; have HR := Lib.hid hbr; have HV := Lib.hid hinv
        clear hT hbr hinv
        by_cases hz0 : 0 < z
        · obtain ⟨m, rfl⟩ : ∃ m : Nat, z = m := ⟨z.toNat, by omega⟩
          rw [Int.toNat_natCast] at HV
          have hft : ∀ i, i < 32 → turns K (2 ^ i) < 4294967296 := fun i hi => turns_lt K (pow_lt i hi)
          have HFT := Lib.hid hft
          have HC := Lib.hid (show ∀ i, i < 32 → wr.cell? ⟨w.heap.size, i, none⟩ = some (.int .u32 (turns K (2 ^ i) : Nat)) from fun i hi => img_cell HT.out hi)
          have hand := i64_and1 m (by omega)
          have HLT := Lib.hid (Array.getElem?_eq_some_iff.1 HT.out).1
          clear hft
          by_cases ho : m % 2 = 1
          all_goals first | (
            have ho1 : m % 2 = 1 := ho
            clear ho1
            have hodd : (bits BinOp.and IntKind.i64 (m : Int) 1 != 0) = true := by rw [hand, ho]; rfl
            have HV2 := Lib.hid ((inv_odd (K := K) (A := A) ho).trans HV.out)
            have HA2 := Lib.hid (turns_lt K hA)
            have HX := Lib.hid (thru_all K A hA)
            clear hand ho
            go_wp2_with (first
              | (go_at_call 20; refine (of_any w.heap.size A hA (fun i => turns K (2 ^ i)) HFT.out _ HC.out).mono ?_; rintro e w' ⟨rfl, nd, rfl⟩; rw [HX.out])
              | (refine wpList_load_row rfl 43 (.tmp 7) rfl w.heap.size rfl 43 (img (fun i => turns K (2 ^ i))) (0, 0) _ (by exact (heap_alloc_old (wr.drewN nd) _ HLT.out).trans HT.out) Try.underlying43 rfl (by rw [img_size]; exact HI.out) ?_))
            rw [img_zero]
            have HZ := Lib.hid (heap_alloc_new (wr.drewN nd) (.cells (img (fun _ => 0)) 43))
            have HT1 := Lib.hid ((heap_alloc_old (wr.drewN nd) (.cells (img (fun _ => 0)) 43) HLT.out).trans HT.out)
            have HBB := Lib.hid (bl_alloc (x := wr.drewN nd) (show Below w.heap.size w (wr.drewN nd) from ⟨HR.out.os, HR.out.tape, HR.out.output, HR.out.size, HR.out.block⟩) (.cells (img (fun _ => 0)) 43))
            have HL2 : Hid (w.heap.size < (wr.drewN nd).heap.size) := HLT.out
            clear HX HLT HT HR HC hodd HV
            generalize turns K A = A2 at HV2 HA2 ⊢
            generalize (wr.drewN nd).alloc (.cells (img (fun _ => 0)) 43) = wb at HZ HT1 HBB ⊢
            have hbs : (wr.drewN nd).heap.size = wr.heap.size := rfl
            rw [hbs] at HZ HL2
            clear hbs
            generalize wr.heap.size = b2 at HZ HL2 ⊢) | (
            have hodd : (bits BinOp.and IntKind.i64 (m : Int) 1 != 0) = false := by rw [hand, show m % 2 = 0 from by omega]; rfl
            have HV2 := Lib.hid ((inv_even (K := K) (A := A) (by omega : m % 2 = 0)).trans HV.out)
            have HA2 := Lib.hid hA
            clear hand ho
            go_wp2_with (refine wpList_load_row rfl 43 (.tmp 7) rfl w.heap.size rfl 43 (img (fun i => turns K (2 ^ i))) (0, 0) _ (by exact (heap_alloc_old wr _ HLT.out).trans HT.out) Try.underlying43 rfl (by rw [img_size]; exact HI.out) ?_)
            rw [img_zero]
            have HZ := Lib.hid (heap_alloc_new wr (.cells (img (fun _ => 0)) 43))
            have HT1 := Lib.hid ((heap_alloc_old wr (.cells (img (fun _ => 0)) 43) HLT.out).trans HT.out)
            have HBB := Lib.hid (bl_alloc HR.out (.cells (img (fun _ => 0)) 43))
            have HL2 := HLT
            clear HLT HT HR HC hodd HV hA
            generalize A = A2 at HV2 HA2 ⊢
            generalize wr.alloc (.cells (img (fun _ => 0)) 43) = wb at HZ HT1 HBB ⊢
            generalize wr.heap.size = b2 at HZ HL2 ⊢)
          all_goals
            have hbn : w.heap.size ≠ b2 := by have := HL2.out; omega
            have HBN := Lib.hid hbn
            have hb2w : w.heap.size ≤ b2 := by have := HL2.out; omega
            clear hbn
            go_loopw [39] (fun i wi => ∃ k : Nat, k ≤ 32 ∧ i = .int .i64 k ∧ wi.heap[b2]? = some (.cells (img (made (K + K) k)) 43 (0, 0)) ∧ wi.heap[w.heap.size]? = some (.cells (img (fun i => turns K (2 ^ i))) 43 (0, 0)) ∧ Below w.heap.size w wi) (fun i _ => 32 - (intOf i).toNat)
            case atStart => exact ⟨0, Nat.zero_le _, rfl, HZ.out.trans (by rw [img_congr (g := made (K + K) 0) (fun i _ => by unfold made; simp)]), HT1.out, HBB.out⟩
            case round =>
              obtain ⟨k, hk, rfl, hM, hT, hbr⟩ := hrel
              have HM := Lib.hid hM; have HT := Lib.hid hT; have HR := Lib.hid hbr
              clear hM hT hbr
              by_cases hlt : k < 32
              · have hki : decide ((k : Int) < 32) = true := by simp; omega
                have hpk := HFT.out k hlt
                have hix := run_img (fun i => turns K (2 ^ i)) k hlt
                have HX := Lib.hid ((thru_all K (turns K (2 ^ k)) hpk).trans (turns_twice K (2 ^ k)))
                have HC := Lib.hid (show ∀ i, i < 32 → wr.cell? ⟨w.heap.size, i, none⟩ = some (.int .u32 (turns K (2 ^ i) : Nat)) from fun i hi => img_cell HT.out hi)
                have hcell := img_cell HM.out hlt
                have hfr := frozen_of_row wr b2 k _ _ HM.out
                have HS := Lib.hid (img_store HM.out hlt (turns (K + K) (2 ^ k)))
                have HST := Lib.hid (made_step (K + K) k hlt)
                go_wp2_with (go_at_call 20; refine (of_any w.heap.size _ hpk (fun i => turns K (2 ^ i)) HFT.out _ HC.out).mono ?_; rintro e w' ⟨rfl, nd2, rfl⟩; rw [HX.out])
                go_roundw
                case rel => exact ⟨k + 1, by omega, by go_num, (img_store (w := wr.drewN nd2) HM.out hlt (turns (K + K) (2 ^ k))).trans (by rw [HST.out]), (heap_setCell_other _ _ _ _ HBN.out).trans HT.out, Below.setCell (p := ⟨b2, k, none⟩) (show Below w.heap.size w (wr.drewN nd2) from ⟨HR.out.os, HR.out.tape, HR.out.output, HR.out.size, HR.out.block⟩) hb2w _⟩
                case measure => simp [intOf]; omega
              · obtain rfl : k = 32 := by omega
                have HM2 := HM.out
                rw [made_all] at HM2
                have HM3 := Lib.hid HM2
                clear HM2 HM
                go_wp2_with (first
                  | (refine wpList_load_row rfl 43 (.tmp 9) rfl b2 rfl 43 (img (fun i => turns (K + K) (2 ^ i))) (0, 0) _ HM3.out Try.underlying43 rfl (by rw [img_size]; exact HI.out) ?_)
                  | (refine wpList_store_row rfl 43 (.tmp 7) (.tmp 48) rfl w.heap.size (img (fun i => turns (K + K) (2 ^ i))) rfl rfl 43 (img (fun i => turns K (2 ^ i))) HT.out (by rw [img_size]; exact HI.out) (by rw [img_size, img_size]) (img_one _) ?_))
                go_roundw
                case rel => exact ⟨(m : Int) / 2, K + K, A2, rfl, rfl, by omega, HA2.out, by rw [show ((m : Int) / 2).toNat = m / 2 from by omega]; exact HV2.out, setRow_heap _ _ _ _ _ _ HT.out, HR.out.trans ⟨rfl, rfl, rfl, by simp, fun q hq => setRow_other _ _ _ _ (by omega)⟩⟩
                case measure => simp [intOf]; omega
        · have hz1 : z.toNat = 0 := by omega
          have HF : Hid (A = turns (8 * n.toNat) a) := by have := HV.out; rw [hz1] at this; exact this
          have hx := b32_xor A b hA hb
          clear hz1
          go_wp2
          go_ret
          exact ⟨ret_int (by rw [HF.out]; rfl), HR.out⟩
end Go.Proofs.Ytilalngihpobhaa
