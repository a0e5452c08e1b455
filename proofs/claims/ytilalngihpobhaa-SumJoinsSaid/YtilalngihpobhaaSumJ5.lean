/- Walks of layer 1: the law SumJoins. -/
import Derived.Test.YtilalngihpobhaaSumJ4
namespace Go.Proofs.Ytilalngihpobhaa
open Go.RowKit SumMath

theorem flat1 (x : ByteArray) : flat [x] = x.data.toList := by simp [flat]
theorem flat2 (x y : ByteArray) : flat [x, y] = x.data.toList ++ y.data.toList := by simp [flat]
theorem flat3 (x y z : ByteArray) : flat [x, y, z] = x.data.toList ++ y.data.toList ++ z.data.toList := by simp [flat]
theorem len_data (y : ByteArray) : y.data.toList.length = y.size := by rw [Array.length_toList]; rfl

theorem join_two (x y : ByteArray) : join (crc (flat [x])) (crc (flat [y])) y.size = crc (flat [x, y]) := by
  rw [flat1, flat1, flat2, ← len_data, join_crc]
theorem join_three (x y z : ByteArray) : join (crc (flat [x, y])) (crc (flat [z])) z.size = crc (flat [x, y, z]) := by
  rw [flat2, flat1, flat3, ← len_data, join_crc]
theorem join_other (x y z : ByteArray) : join (crc (flat [x])) (crc (flat [y, z])) (y.size + z.size) = crc (flat [x, y, z]) := by
  rw [flat1, flat2, flat3, ← len_data, ← len_data, ← List.length_append, join_crc, List.append_assoc]

/-- A sum over a slice that was just built. -/
theorem sum_new (ss : List ByteArray) (n : Nat) (hn : n = ss.length) (hl : n ≤ maxLen) (hz : ∀ s ∈ ss, s.size ≤ maxLen) (cs : Array Value) (hc : cs = (ss.map Value.string).toArray) (w : World) :
    Calls Try.prog 10 #[.slice (some ⟨w.heap.size, 0, none⟩) n n] (w.alloc (.cells cs 9)) fun e w' => e = .returned (.int .u32 (crc (flat ss))) ∧ Below w.heap.size w w' := by
  subst hn
  refine (sum_any _ ss.length ss hl _ (strs_new w 9 ss hz cs hc)).mono ?_
  rintro e w' ⟨rfl, hb⟩
  exact ⟨rfl, bl_trans (bl_alloc (Below.refl _ _) _) hb⟩

theorem join_at (a b : Nat) (n : Int) (k : Nat) (hk : n = (k : Int)) (r : Nat) (hr : join a b k = r) (ha : a < 4294967296) (hb : b < 4294967296) (hn : k ≤ 9223372036854775807) (w : World) :
    Calls Try.prog 14 #[.int .u32 a, .int .u32 b, .int .i64 n] w fun e w' => e = .returned (.int .u32 (r : Nat)) ∧ Below w.heap.size w w' := by
  subst hk
  refine (join_any a b k ha hb (by omega) (by omega) w).mono ?_
  rintro e w' ⟨rfl, hB⟩
  rw [Int.toNat_natCast, hr]
  exact ⟨rfl, hB⟩

theorem eq_self (a : Nat) : ((a : Int) == (a : Int)) = true := by simp

set_option maxHeartbeats 4000000 in
set_option maxRecDepth 100000 in
theorem sumJoins_any (x y z : ByteArray) (hx : x.size ≤ 140737488351232) (hy : y.size ≤ 140737488351232) (hz : z.size ≤ 140737488351232) (w : World) :
    Calls Try.prog 8 #[.string x, .string y, .string z] w fun e w' => e = .returned (.bool true) ∧ Below w.heap.size w w' := by
  have HX := Lib.hid (show x.size ≤ maxLen by unfold maxLen; omega)
  have HY := Lib.hid (show y.size ≤ maxLen by unfold maxLen; omega)
  have HZ := Lib.hid (show z.size ≤ maxLen by unfold maxLen; omega)
  have H1 := fun (s : ByteArray) (h : s.size ≤ maxLen) (w : World) => sum_new [s] 1 rfl (by simp [maxLen]) (by simpa using h) _ rfl w
  have H2 := fun (s t : ByteArray) (h : s.size ≤ maxLen) (k : t.size ≤ maxLen) (w : World) => sum_new [s, t] 2 rfl (by simp [maxLen]) (by simp; exact ⟨h, k⟩) _ rfl w
  have H3 := fun (w : World) => sum_new [x, y, z] 3 rfl (by simp [maxLen]) (by simp; exact ⟨HX.out, HY.out, HZ.out⟩) _ rfl w
  have H1 := Lib.hid H1; have H2 := Lib.hid H2; have H3 := Lib.hid H3
  have L1 := fun s => crc_lt (flat [s])
  have L2 := fun s t => crc_lt (flat [s, t])
  have L1 := Lib.hid L1; have L2 := Lib.hid L2
  have e2 := eq_self (crc (flat [x, y])); have e3 := eq_self (crc (flat [y, z])); have e4 := eq_self (crc (flat [x, y, z]))
  go_enter Try.func8, Try.ntmps8
  go_wp2_with (go_at_call 9; refine (known_any _).mono ?_; rintro e w1 ⟨rfl, hb1⟩)
  refine (H1.out x HX.out _).mono ?_
  rintro e w2 ⟨rfl, hb2⟩
  go_wp2_with fail
  refine (H1.out y HY.out _).mono ?_
  rintro e w3 ⟨rfl, hb3⟩
  go_wp2_with fail
  refine (H1.out z HZ.out _).mono ?_
  rintro e w4 ⟨rfl, hb4⟩
  have B4 := Lib.hid (bl_trans (bl_trans (bl_trans hb1 hb2) hb3) hb4)
  clear hb1 hb2 hb3 hb4
  go_wp2_with fail
  refine (join_at _ _ _ y.size rfl _ (join_two x y) (L1.out x) (L1.out y) (by omega) _).mono ?_
  rintro e w5 ⟨rfl, hb5⟩
  go_wp2_with fail
  refine (join_at _ _ _ z.size rfl _ (join_two y z) (L1.out y) (L1.out z) (by omega) _).mono ?_
  rintro e w6 ⟨rfl, hb6⟩
  go_wp2_with fail
  refine (H2.out x y HX.out HY.out _).mono ?_
  rintro e w7 ⟨rfl, hb7⟩
  have B7 := Lib.hid (bl_trans (bl_trans (bl_trans B4.out hb5) hb6) hb7)
  clear hb5 hb6 hb7 B4
  go_wp2_with fail
  refine (H2.out y z HY.out HZ.out _).mono ?_
  rintro e w8 ⟨rfl, hb8⟩
  go_wp2_with fail
  refine (join_at _ _ _ z.size rfl _ (join_three x y z) (L2.out x y) (L1.out z) (by omega) _).mono ?_
  rintro e w9 ⟨rfl, hb9⟩
  go_wp2_with fail
  refine (H3.out _).mono ?_
  rintro e w10 ⟨rfl, hb10⟩
  have B10 := Lib.hid (bl_trans (bl_trans (bl_trans B7.out hb8) hb9) hb10)
  clear hb8 hb9 hb10 B7
  go_wp2_with fail
  refine (join_at _ _ _ (y.size + z.size) (by omega) _ (join_other x y z) (L1.out x) (L2.out y z) (by omega) _).mono ?_
  rintro e w11 ⟨rfl, hb11⟩
  go_wp2_with fail
  refine (H3.out _).mono ?_
  rintro e w12 ⟨rfl, hb12⟩
  go_wp2
  go_ret
  exact ⟨rfl, bl_trans (bl_trans B10.out hb11) hb12⟩
end Go.Proofs.Ytilalngihpobhaa
