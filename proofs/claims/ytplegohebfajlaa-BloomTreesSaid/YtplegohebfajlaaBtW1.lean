/- Layer 13: good trees; filters of two trees. -/
import Derived.Test.YtplegohebfajlaaBtMath
import Derived.Test.YtplegohebfajlaaTrGd
import Derived.Deep.RegionLaw
set_option linter.unusedVariables false
set_option linter.unusedSimpArgs false
namespace Go.Proofs.Ytplegohebfajlaa
open Go.RowKit TrMath

theorem en_take {w : World} {a : Option Addr} {l : Ents} (h : EnAt w a l) (n : Nat) : EnAt w a (l.take n) := fun i hi => by
  have hl : i < l.length := by rw [List.length_take] at hi; omega
  obtain ⟨b, off, h1, h0, h2, h3⟩ := h i hl
  exact ⟨b, off, h1, h0, by rw [List.getElem_take]; exact h2, by rw [List.getElem_take]; exact h3⟩
set_option maxHeartbeats 2000000 in
set_option maxRecDepth 100000 in
theorem lGood7 (l : Ents) (hW : Words (l.take 700)) (a : Option Addr) (c : Nat) (hcl : l.length ≤ c) (hcm : c ≤ maxLen) (hl : l.length ≤ maxLen) (w : World) (h : EnAt w a l) :
    Calls Try.prog 19 #[.slice a l.length c] w fun e w' => ∃ v, e = .returned v ∧ Own w' w.heap.size v (goodL (l.take 700)) ∧ Below w.heap.size w w' := by
  unfold maxLen at hl
  obtain ⟨i0, hi, hz0, hz1, hz2⟩ := info_parts infoEntry
  obtain ⟨n, hn⟩ : ∃ n, n = min l.length 700 := ⟨_, rfl⟩
  have hn1 : (l.take 700).length = n := by rw [List.length_take]; omega
  have hX := en_take h 700
  obtain ⟨X, hXX⟩ : ∃ X, l.take 700 = X := ⟨_, rfl⟩
  rw [hXX] at hn1 hX hW
  rw [hXX]
  have HM := Lib.hid (fun W a c hw => rMake (cutL X) (cutL_words hW) a c (by have := cutL_len X; omega) W hw)
  have hnl : n ≤ l.length := by omega
  have hn2 : n ≤ 700 := by omega
  have hnc : n ≤ c := by omega
  unfold maxLen at hcm
  have hmin : min (l.length : Int) 700 = (n : Int) := by omega
  have HA := Lib.hid hX; have HN := Lib.hid hn1
  clear h hn hn1 hW hX hXX
  go_enter Try.func19, Try.ntmps19
  go_wp2
  go_loopw [3, 14] (fun ov iv wr => ∃ (v : Value) (k : Nat), k ≤ n ∧ iv = .int .i64 k ∧ ov = v ∧ Own wr w.heap.size v ((cutL X).take k) ∧ Below w.heap.size w wr) (fun _ iv _ => n - (intOf iv).toNat)
  case atStart => exact ⟨_, 0, Nat.zero_le _, rfl, rfl, Own.nil _ _, Below.refl _ _⟩
  case round =>
    obtain ⟨v, k, hk, rfl, rfl, hown, hbel⟩ := hrel
    have HO := Lib.hid hown; have HB := Lib.hid hbel
    have hwz := hbel.size
    have htl : ((cutL X).take k).length ≤ k := by rw [List.length_take]; omega
    have hcl : (cutL X).length = n := by
      unfold cutL
      rw [List.length_map, List.length_take, HN.out]
      omega
    have HCL := Lib.hid hcl
    have HTL := Lib.hid (show ((cutL X).take k).length = k by rw [List.length_take, hcl]; exact Nat.min_eq_left hk)
    clear hcl
    clear hown hbel
    by_cases hlt : k < n
    · have hlt2 : k < (X.take 2000).length := by rw [List.length_take, HN.out]; omega
      have hlt3 : k < X.length := by rw [HN.out]; exact hlt
      obtain ⟨b1, o1, rfl, hb1, p1, p2⟩ := HA.out.below HB.out k hlt3
      obtain ⟨p, x, hx⟩ : ∃ p x, X[k] = (p, x) := ⟨_, _, rfl⟩
      have HC := Lib.hid (show (cutL X).take (k + 1) = (cutL X).take k ++ [(cutP p, x)] from cut_at hlt2 (by rw [List.getElem_take]; exact hx))
      rw [hx] at p1 p2
      clear hx
      obtain ⟨q, hq⟩ : ∃ q, q = cutP p := ⟨_, rfl⟩
      obtain ⟨m, hm⟩ : ∃ m, m = min p.size 255 := ⟨_, rfl⟩
      have hmz : min (p.size : Int) 255 = (m : Int) := by omega
      have hmp : m ≤ p.size := by omega
      have HQ := Lib.hid (show p.extract 0 m = q by rw [hq, hm]; rfl)
      have HQ2 := Lib.hid hq
      clear hq hm
      go_wp2
      have HX0 : (wr.alloc (.cells #[.string p, .int .u32 x] 47)).cell? ⟨wr.heap.size, 0, none⟩ = some (.string p) := by rw [World.cell?_alloc_mark]; rfl
      have HX1 : (wr.alloc (.cells #[.string p, .int .u32 x] 47)).cell? ⟨wr.heap.size, 1, none⟩ = some (.int .u32 x) := by rw [World.cell?_alloc_mark]; rfl
      have HOx := Lib.hid (HO.out.alloc (.cells #[.string p, .int .u32 x] 47))
      have HOk := Lib.hid (own_n HOx.out HTL.out)
      have HBx := Lib.hid (bl_alloc HB.out (.cells #[.string p, .int .u32 x] 47))
      have hxs : wr.heap.size < (wr.alloc (.cells #[.string p, .int .u32 x] 47)).heap.size := by simp
      generalize wr.alloc (.cells #[.string p, .int .u32 x] 47) = x4 at *
      go_region_law (refine step_append_lies _ rfl (.tmp 18) (.tmp 29) 42 rfl w.heap.size 47 i0 (.agg #[.string ⟨#[]⟩, .int .u32 0]) 2 24 Try.underlying42 hi hz0 hz1 hz2 rfl (by decide) _ k _ rfl (HOk.out.drew.alloc _) ⟨x4.heap.size, 0, none⟩ 1 1 [.string (p.extract 0 m), .int .u32 x] rfl rfl (cells_pair _ _ _ _) (one_pair _ _) (by decide) (by unfold maxLen; omega) (by omega) (by simp; omega) _ rfl ?_; intro gg cp w5 hown hg hat hlt5; have HO5 := Lib.hid hown; have HB5 := Lib.hid (gb_to_below (bl_alloc (bl_drew HBx.out) _) hg (by simp; omega) (fun i hi => (HOx.out.lt i hi).1)); clear hown hg hat hlt5)
      all_goals
        go_wp2
        go_roundw
        case rel => exact ⟨_, k + 1, by omega, by go_num, rfl, by rw [HC.out, ← HQ2.out, ← HQ.out]; exact Own.pushN HO5.out HTL.out, HB5.out⟩
        case measure => simp [intOf]; omega
    · obtain rfl : k = n := by omega
      have hT : (cutL X).take k = cutL X := List.take_of_length_le (by have := HCL.out; omega)
      obtain ⟨ta, tc, hv, hte, hsl⟩ := Own.sl HO.out
      rw [HTL.out] at hv
      subst hv
      have HTE := Lib.hid (show EnAt wr ta (cutL X) by rw [← hT]; exact hte)
      have HMM := Lib.hid (show Calls Try.prog 25 #[.slice ta k tc] wr (MakeSaid (cutL X) wr) by have := HM.out wr ta tc HTE.out; rw [HCL.out] at this; exact this)
      clear hte hsl hT
      go_wp2_with (go_at_call 25; (with_reducible refine (HMM.out).mono ?_); rintro e w2 ⟨v2, rfl, hown2, hb2⟩; have HO2 := Lib.hid hown2; have HB2 := Lib.hid hb2; clear hown2 hb2)
      go_ret
      exact ⟨_, rfl, by rw [← (mk_good X).1]; exact HO2.out.mono hwz, bl_trans HB.out HB2.out⟩

end Go.Proofs.Ytplegohebfajlaa
