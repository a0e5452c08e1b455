/- Walks of layer 2: the readers' numbers of one, two, four, eight bytes; the short numbers. -/
import Derived.Test.YtbbcgafkpobndaaRdW4
import Derived.BigRegion
set_option linter.unusedVariables false
set_option linter.unusedSimpArgs false
namespace Go.Proofs.Ytbbcgafkpobndaa
open Go.RowKit PackMath

theorem rFixed_at (p : Nat) (s : ByteArray) (a e : Nat) (j : Int) (n : Nat) (hj : j = n) (w : World) (h : IsRd TR w p s a e) (hn : n ≤ 8) :
    Calls Try.prog 47 #[.pointer (some ⟨p, 0, none⟩), .int .i64 j] w fun r w' => ∃ v f b g, numR s a e n = ((v, f), (b, g)) ∧ v < 256 ^ n ∧ r = .returned (.tuple #[.int .u64 (v : Nat), .int .i64 (f : Nat)]) ∧ Kept w w' p ∧ IsRd TR w' p s b g := by
  subst hj
  refine (rFixed p s a e n w h hn).mono ?_
  rintro r w1 ⟨rfl, h1, h2⟩
  exact ⟨_, _, _, _, rfl, numR_lt s a e n, rfl, h1, h2⟩

section
variable (p : Nat) (s : ByteArray) (a e : Nat) (w : World)
theorem rU8 (h : IsRd TR w p s a e) : Calls Try.prog 22 #[.pointer (some ⟨p, 0, none⟩)] w fun r w' => r = .returned (.tuple #[.int .u8 (numR s a e 1).1.1, .int .i64 (numR s a e 1).1.2]) ∧ Kept w w' p ∧ IsRd TR w' p s (numR s a e 1).2.1 (numR s a e 1).2.2 := by
  have HR := Lib.hid h; clear h
  go_enter Try.func22, Try.ntmps22
  go_wp2_with (go_at_call 47; refine (rFixed_at p s a e _ 1 rfl w HR.out (by decide)).mono ?_; rintro r w1 ⟨v, f, b, g, hN, hv, rfl, hk⟩; have HN := Lib.hid hN; have HK := Lib.hid hk; clear hN hk; have hv2 : v < 256 := hv; clear hv)
  go_ret2
  rw [HN.out]
  exact ⟨rfl, HK.out⟩
theorem rU16 (h : IsRd TR w p s a e) : Calls Try.prog 40 #[.pointer (some ⟨p, 0, none⟩)] w fun r w' => r = .returned (.tuple #[.int .u16 (numR s a e 2).1.1, .int .i64 (numR s a e 2).1.2]) ∧ Kept w w' p ∧ IsRd TR w' p s (numR s a e 2).2.1 (numR s a e 2).2.2 := by
  have HR := Lib.hid h; clear h
  go_enter Try.func40, Try.ntmps40
  go_wp2_with (go_at_call 47; refine (rFixed_at p s a e _ 2 rfl w HR.out (by decide)).mono ?_; rintro r w1 ⟨v, f, b, g, hN, hv, rfl, hk⟩; have HN := Lib.hid hN; have HK := Lib.hid hk; clear hN hk; have hv2 : v < 65536 := hv; clear hv)
  go_ret2
  rw [HN.out]
  exact ⟨rfl, HK.out⟩
theorem rU32 (h : IsRd TR w p s a e) : Calls Try.prog 41 #[.pointer (some ⟨p, 0, none⟩)] w fun r w' => r = .returned (.tuple #[.int .u32 (numR s a e 4).1.1, .int .i64 (numR s a e 4).1.2]) ∧ Kept w w' p ∧ IsRd TR w' p s (numR s a e 4).2.1 (numR s a e 4).2.2 := by
  have HR := Lib.hid h; clear h
  go_enter Try.func41, Try.ntmps41
  go_wp2_with (go_at_call 47; refine (rFixed_at p s a e _ 4 rfl w HR.out (by decide)).mono ?_; rintro r w1 ⟨v, f, b, g, hN, hv, rfl, hk⟩; have HN := Lib.hid hN; have HK := Lib.hid hk; clear hN hk; have hv2 : v < 4294967296 := hv; clear hv)
  go_ret2
  rw [HN.out]
  exact ⟨rfl, HK.out⟩
theorem rU64 (h : IsRd TR w p s a e) : Calls Try.prog 25 #[.pointer (some ⟨p, 0, none⟩)] w fun r w' => r = .returned (.tuple #[.int .u64 (numR s a e 8).1.1, .int .i64 (numR s a e 8).1.2]) ∧ Kept w w' p ∧ IsRd TR w' p s (numR s a e 8).2.1 (numR s a e 8).2.2 := by
  have HR := Lib.hid h; clear h
  go_enter Try.func25, Try.ntmps25
  go_wp2_with (go_at_call 47; refine (rFixed_at p s a e _ 8 rfl w HR.out (by decide)).mono ?_; rintro r w1 ⟨v, f, b, g, hN, hv, rfl, hk⟩; have HN := Lib.hid hN; have HK := Lib.hid hk; clear hN hk; have hv2 : v < 18446744073709551616 := hv; clear hv)
  go_ret2
  rw [HN.out]
  exact ⟨rfl, HK.out⟩
end

theorem ret2 {k l : IntKind} {x y u v : Int} (h : x = u) (h2 : y = v) : Ending.returned (.tuple #[.int k x, .int l y]) = .returned (.tuple #[.int k u, .int l v]) := by rw [h, h2]

theorem short_lt {V k : Nat} (n : Nat) (h : V < 2 ^ (7 * k)) : V + n % 128 * 2 ^ (7 * k) < 2 ^ (7 * (k + 1)) := by
  rw [show 7 * (k + 1) = 7 * k + 7 from by omega, Nat.pow_add]
  have h1 : n % 128 * 2 ^ (7 * k) ≤ 127 * 2 ^ (7 * k) := Nat.mul_le_mul_right _ (by omega)
  omega
theorem short_fits (n k : Nat) (hk : k ≤ 9) (h9 : k = 9 → n % 128 ≤ 1) : n % 128 * 2 ^ (7 * k) < 18446744073709551616 := by
  by_cases h : k = 9
  · subst h
    have := h9 rfl
    have h1 : n % 128 * 2 ^ (7 * 9) ≤ 1 * 2 ^ (7 * 9) := Nat.mul_le_mul_right _ this
    exact Nat.lt_of_le_of_lt h1 (by decide)
  · have h1 : n % 128 * 2 ^ (7 * k) ≤ 127 * 2 ^ (7 * 8) := Nat.mul_le_mul (by omega) (Nat.pow_le_pow_right (by decide) (by omega))
    exact Nat.lt_of_le_of_lt h1 (by decide)
theorem low7 (n : Nat) (hn : n < 256) : bits .and .u8 (n : Int) 127 = ((n % 128 : Nat) : Int) := by
  have h := u8_and_nat n 127 hn (by decide)
  rw [show (127 : Nat) = 2 ^ 7 - 1 from rfl, Nat.and_two_pow_sub_one_eq_mod] at h
  exact h
theorem short_or (V n k : Nat) (hk : k ≤ 9) (h9 : k = 9 → n % 128 ≤ 1) (hV : V < 2 ^ (7 * k)) :
    bits .or .u64 (V : Int) (IntKind.u64.wrap (((n % 128 : Nat) : Int) * 2 ^ (7 * k))) = ((V + n % 128 * 2 ^ (7 * k) : Nat) : Int) := by
  have hf := short_fits n k hk h9
  have hV2 : V < 18446744073709551616 := Nat.lt_of_lt_of_le hV (Nat.le_trans (Nat.pow_le_pow_right (by decide) (show 7 * k ≤ 63 by omega)) (by decide))
  have e : ((n % 128 : Nat) : Int) * 2 ^ (7 * k) = ((n % 128 * 2 ^ (7 * k) : Nat) : Int) := by rw [Int.natCast_mul, Int.natCast_pow]; rfl
  rw [e, IntWalk.u64_in _ (by omega)]
  have h := u64_or_nat V (n % 128 * 2 ^ (7 * k)) hV2 hf
  rw [orPow _ _ _ hV] at h
  exact h
theorem short_val (V n k : Nat) (hn : n < 256) (hk : k ≤ 9) (h9 : k = 9 → n % 128 ≤ 1) (hV : V < 2 ^ (7 * k)) :
    bits .or .u64 (V : Int) (IntKind.u64.wrap (IntKind.u64.wrap (bits .and .u8 (n : Int) 127) * 2 ^ (7 * k))) = ((V + n % 128 * 2 ^ (7 * k) : Nat) : Int) := by
  rw [low7 n hn, IntWalk.u64_in (((n % 128 : Nat) : Int)) (by omega)]
  exact short_or V n k hk h9 hV

set_option maxHeartbeats 4000000 in
set_option maxRecDepth 100000 in
theorem rShort (p : Nat) (s : ByteArray) (a e : Nat) (w : World) (h : IsRd TR w p s a e) :
    Calls Try.prog 16 #[.pointer (some ⟨p, 0, none⟩)] w fun r w' => r = .returned (.tuple #[.int .u64 (shortR s a e).1.1, .int .i64 (shortR s a e).1.2]) ∧ Kept w w' p ∧ IsRd TR w' p s (shortR s a e).2.1 (shortR s a e).2.2 := by
  obtain ⟨c0, c1, c2, f0, f1, f2⟩ := h.cells
  have hle := h.le
  have hsm := h.small
  have HR := Lib.hid h
  clear h
  have hcv := fun w t => run_bytes_of_string (P := Try.prog) w 9 26 5 t Try.underlying9 Try.underlying26 Try.underlying5
  by_cases he : e = 0
  · subst he
    have ha1 : IntKind.i64.wrap ((a : Int) + 10) = (a : Int) + 10 := IntWalk.i64_in _ (by omega)
    obtain ⟨M, hM⟩ : ∃ M : Nat, M = min (a + 10) s.size := ⟨_, rfl⟩
    have hM1 : (if (s.size : Int) < (a : Int) + 10 then (s.size : Int) else (a : Int) + 10) = (M : Int) := by split <;> omega
    have hM2 : min M s.size = M := by omega
    have hM3 : M ≤ s.size := by omega
    have hM4 : a ≤ M := by omega
    have HM := Lib.hid hM
    clear hM
    go_enter Try.func16, Try.ntmps16
    go_wp2
    go_region
    have hts : (s.extract a M).size = M - a := by rw [ByteArray.size_extract, hM2]
    have hst : shortGo a ((s.extract a M).data.toList.drop 0) 0 0 = shortR s a 0 := by
      rw [extract_list, List.drop_zero]
      unfold shortR
      rw [if_neg (by simp), HM.out]
      exact cut_ten s a
    have HST := Lib.hid hst
    clear hst
    generalize s.extract a M = t at hts HST ⊢
    rw [← hts]
    have ht10 : t.size ≤ 10 := by have := HM.out; omega
    have hta : a + t.size ≤ s.size := by omega
    clear hts hM1 hM2 HM
    generalize grownCap _ t.size 0 5 = cap
    generalize hwv : (w.alloc (.cells (bytesRow t cap) 5 ((bytesRow t cap).size, (bytesRow t cap).size + 1))).drew.drew = wv
    have HB := Lib.hid (show Below w.heap.size w wv by rw [← hwv]; exact ((Below.refl _ _).alloc (Nat.le_refl _) _).drew.drew)
    have HC := Lib.hid (show ∀ i (h : i < t.size), wv.cell? ⟨w.heap.size, i, none⟩ = some (.int .u8 (t[i].toNat : Nat)) from fun i h => by
      rw [← hwv]; show (w.alloc _).cell? _ = _; rw [World.cell?_alloc_mark, bytesRow_at t _ i h]; rfl)
    clear hwv hcv c0 c1 c2 f0 f1 f2
    have HV := Lib.hid (HR.out.below HB.out)
    obtain ⟨c0, c1, c2, f0, f1, f2⟩ := HV.out.cells
    go_wp2
    go_loop [4, 40] (fun v i => ∃ k V : Nat, k ≤ t.size ∧ i = .int .i64 k ∧ v = .int .u64 V ∧ V < 2 ^ (7 * k) ∧ shortGo a (t.data.toList.drop k) k V = shortR s a 0) (fun _ i => t.size - (intOf i).toNat)
    case atStart => exact ⟨0, 0, Nat.zero_le _, rfl, rfl, by decide, HST.out⟩
    case round =>
      obtain ⟨k, V, hk, rfl, rfl, hV, hst⟩ := hrel
      have HS := Lib.hid hst; have HVV := Lib.hid hV
      clear hst hV HST
      by_cases hlt : k < t.size
      · have hcell := HC.out k hlt
        have hdr := List.drop_eq_getElem_cons (l := t.data.toList) (i := k) (by simpa using hlt)
        have HS2 : Hid (shortGo a (t[k] :: t.data.toList.drop (k + 1)) k V = shortR s a 0) := Lib.hid (by rw [← HS.out, hdr]; rfl)
        clear hdr HS
        generalize t[k] = c at hcell HS2
        have hcl := c.toNat_lt
        obtain ⟨n, hn⟩ : ∃ n, c.toNat = n := ⟨_, rfl⟩
        rw [hn] at hcell hcl
        by_cases q1 : k = 9 <;> by_cases q2 : 1 < n <;> by_cases q3 : 0 < k <;> by_cases q4 : n = 0 <;> by_cases q5 : n < 128
        all_goals try (exfalso; omega)
        all_goals (
          first | (have z1 : ((k : Int) == 9) = true := by simp; omega) | (have z1 : ((k : Int) == 9) = false := by simp; omega)
          first | (have z2 : decide ((1 : Int) < (n : Int)) = true := by simp; omega) | (have z2 : decide ((1 : Int) < (n : Int)) = false := by simp; omega)
          first | (have z3 : decide ((0 : Int) < (k : Int)) = true := by simp; omega) | (have z3 : decide ((0 : Int) < (k : Int)) = false := by simp; omega)
          first | (have z4 : ((n : Int) == 0) = true := by simp; omega) | (have z4 : ((n : Int) == 0) = false := by simp; omega)
          first | (have z5 : decide ((n : Int) < 128) = true := by simp; omega) | (have z5 : decide ((n : Int) < 128) = false := by simp; omega)
          first
            | (have HA : Hid (shortR s a 0 = ((0, 3), (a, 3))) := Lib.hid (by rw [← HS2.out]; exact go_bad (by rw [hn]; omega)))
            | (have HA : Hid (shortR s a 0 = ((V + n % 128 * 2 ^ (7 * k), 0), (a + k + 1, 0))) := Lib.hid (by rw [← HS2.out, ← hn]; exact go_last (by rw [hn]; omega) (by rw [hn]; omega))
               have HV2 := Lib.hid (short_val V n k hcl (by omega) (by omega) HVV.out))
            | (have HA : Hid (shortGo a (t.data.toList.drop (k + 1)) (k + 1) (V + n % 128 * 2 ^ (7 * k)) = shortR s a 0) := Lib.hid (by rw [← HS2.out, ← hn]; exact (go_on (by rw [hn]; omega) (by rw [hn]; omega)).symm)
               have HV2 := Lib.hid (short_val V n k hcl (by omega) (by omega) HVV.out))
          clear HS2 q1 q2 q3 q4 q5 hn
          go_wp2_with (go_at_call 38; refine (rFail_at p s a wv _ 3 rfl HV.out).mono ?_; rintro r w2 ⟨rfl, hk⟩; have HK2 := Lib.hid hk; clear hk))
        all_goals try (
          go_ret2
          rw [HA.out]
          exact ⟨rfl, (Kept.ofBelow p HB.out).trans HK2.out.1, HK2.out.2⟩)
        all_goals try (
          go_round
          case rel => exact ⟨k + 1, V + n % 128 * 2 ^ (7 * k), by omega, by go_num, by rw [HV2.out], short_lt n HVV.out, HA.out⟩
          case measure => simp [intOf]; omega)
        all_goals try (exfalso; simp only [decide_eq_true_eq, decide_eq_false_iff_not] at z3; omega)
        all_goals
          go_ret2
          rw [HA.out]
          exact ⟨ret2 HV2.out rfl, (Kept.ofBelow p HB.out).trans (Kept.set _ _ _ _), HV.out.at1 (a + k + 1) (by omega)⟩
      · obtain rfl : k = t.size := by omega
        have HS2 : Hid (shortR s a 0 = ((0, 2), (a, 2))) := Lib.hid (by rw [← HS.out, List.drop_of_length_le (by simp)]; rfl)
        go_wp2_with (go_at_call 38; refine (rFail_at p s a wv _ 2 rfl HV.out).mono ?_; rintro r w2 ⟨rfl, hk⟩; have HK2 := Lib.hid hk; clear hk)
        go_ret2
        rw [HS2.out]
        exact ⟨rfl, (Kept.ofBelow p HB.out).trans HK2.out.1, HK2.out.2⟩
  · have hd : ((e : Int) != 0) = true := by simp; omega
    have HE := Lib.hid he
    clear he
    go_enter Try.func16, Try.ntmps16
    go_wp2_with (go_at_call 26; refine (rErr p s a e w HR.out).mono ?_; rintro r w1 ⟨rfl, rfl⟩)
    go_ret2
    have h2 : shortR s a e = ((0, e), (a, e)) := by unfold shortR; rw [if_pos HE.out]
    rw [h2]
    exact ⟨rfl, Kept.refl _ _, HR.out⟩
end Go.Proofs.Ytbbcgafkpobndaa
