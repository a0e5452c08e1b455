/- Walks of layer 1: the law SumTurns. -/
import Derived.Test.YtilalngihpobhaaSumW4
import Derived.Deep.RegionWith
import Derived.Deep.RegionHeld3
import Derived.BigRegion
import Derived.Lib.Strings
import Derived.Lib.IndexBytes
set_option linter.unusedVariables false
set_option linter.unusedSimpArgs false
namespace Go.Proofs.Ytilalngihpobhaa
open Go.RowKit SumMath

theorem strs1 {w : World} {b : Nat} {s : ByteArray} (hs : s.size ≤ maxLen) (h : w.cell? ⟨b, 0, none⟩ = some (.string s)) : StrsAt w (some ⟨b, 0, none⟩) [s] := fun i hi => by
  match i, hi with
  | 0, _ => exact ⟨hs, b, 0, rfl, h⟩
theorem strs3 {w : World} {b : Nat} {r s t : ByteArray} (hr : r.size ≤ maxLen) (hs : s.size ≤ maxLen) (ht : t.size ≤ maxLen) (h0 : w.cell? ⟨b, 0, none⟩ = some (.string r)) (h1 : w.cell? ⟨b, 1, none⟩ = some (.string s)) (h2 : w.cell? ⟨b, 2, none⟩ = some (.string t)) :
    StrsAt w (some ⟨b, 0, none⟩) [r, s, t] := fun i hi => by
  match i, hi with
  | 0, _ => exact ⟨hr, b, 0, rfl, h0⟩
  | 1, _ => exact ⟨hs, b, 0, rfl, h1⟩
  | 2, _ => exact ⟨ht, b, 0, rfl, h2⟩

theorem cell3 (w : World) (c : Array Value) (t : TypeId) (b d : Obj) (i : Nat) (v : Value) (h : c[i]? = some v := by rfl) :
    (((w.alloc (.cells c t)).alloc b).alloc d).cell? ⟨w.heap.size, i, none⟩ = some v := by
  rw [World.cell?_alloc_lt _ _ _ (by simp; omega), World.cell?_alloc2_first]; exact h
theorem cell1 (w : World) (c : Array Value) (t : TypeId) (i : Nat) : (w.alloc (.cells c t)).cell? ⟨w.heap.size, i, none⟩ = c[i]? := World.cell?_alloc_new w c t i
theorem cell2f (w : World) (c : Array Value) (t : TypeId) (b : Obj) (i : Nat) (v : Value) (h : c[i]? = some v) : ((w.alloc (.cells c t)).alloc b).cell? ⟨w.heap.size, i, none⟩ = some v := by
  rw [World.cell?_alloc_lt _ _ _ (by simp), World.cell?_alloc_new]; exact h
theorem cell2s (w : World) (a : Obj) (c : Array Value) (t : TypeId) (i : Nat) : ((w.alloc a).alloc (.cells c t)).cell? ⟨w.heap.size + 1, i, none⟩ = c[i]? := by
  simp
theorem cell3m (w : World) (a : Obj) (c : Array Value) (t : TypeId) (d : Obj) (i : Nat) :
    (((w.alloc a).alloc (.cells c t)).alloc d).cell? ⟨w.heap.size + 1, i, none⟩ = c[i]? := by
  rw [World.cell?_alloc_lt _ _ _ (by simp)]; exact cell2s w a c t i
theorem cell3l (w : World) (a b : Obj) (c : Array Value) (t : TypeId) (i : Nat) :
    (((w.alloc a).alloc b).alloc (.cells c t)).cell? ⟨w.heap.size + 1 + 1, i, none⟩ = c[i]? := by
  have h := World.cell?_alloc_new ((w.alloc a).alloc b) c t i
  simpa using h

theorem other_byte (t : ByteArray) (k y : Nat) (hk : k < t.size) (hy : y < 256) (hne : y ≠ t[k].toNat) :
    ((crc (flat [t]) : Nat) : Int) ≠ ((crc (flat [t.extract 0 k, ⟨#[UInt8.ofNat y]⟩, t.extract (k + 1) t.size]) : Nat) : Int) := by
  intro h
  have h1 : crc (flat [t]) = crc (flat [t.extract 0 k, ⟨#[UInt8.ofNat y]⟩, t.extract (k + 1) t.size]) := by exact_mod_cast h
  have e1 : flat [t] = t.data.toList.take k ++ t[k] :: t.data.toList.drop (k + 1) := by
    have : t.data.toList = t.data.toList.take k ++ t.data.toList.drop k := (List.take_append_drop _ _).symm
    rw [List.drop_eq_getElem_cons (by simpa using hk)] at this
    rw [show flat [t] = t.data.toList from by simp [flat]]
    exact this
  have e2 : flat [t.extract 0 k, ⟨#[UInt8.ofNat y]⟩, t.extract (k + 1) t.size] = t.data.toList.take k ++ UInt8.ofNat y :: t.data.toList.drop (k + 1) := by
    have e0 : (t.extract 0 k).data.toList = t.data.toList.take k := by rw [Lib.extract_data]; simp
    simp only [flat, List.flatMap_cons, List.flatMap_nil, e0, Lib.extract_to_end, List.append_nil]
    rfl
  rw [e1, e2] at h1
  have h2 := crc_other _ _ h1
  apply hne
  rw [h2]
  simp [UInt8.toNat_ofNat']
  omega

theorem one_bit (J : Nat) (h : J < 8) : ∃ m : Nat, IntKind.u8.wrap (2 ^ J) = (m : Int) ∧ m < 256 ∧ m ≠ 0 := by
  match J, h with
  | 0, _ => exact ⟨1, rfl, by decide⟩
  | 1, _ => exact ⟨2, rfl, by decide⟩
  | 2, _ => exact ⟨4, rfl, by decide⟩
  | 3, _ => exact ⟨8, rfl, by decide⟩
  | 4, _ => exact ⟨16, rfl, by decide⟩
  | 5, _ => exact ⟨32, rfl, by decide⟩
  | 6, _ => exact ⟨64, rfl, by decide⟩
  | 7, _ => exact ⟨128, rfl, by decide⟩

theorem turned (x bit : Nat) (hx : x < 256) : ∃ J m y : Nat, (bit : Int).tmod 8 = (J : Int) ∧ (bit : Int) % 8 = (J : Int) ∧ IntKind.u8.wrap (2 ^ J) = (m : Int) ∧ (2 : Int) ^ J % 256 = (m : Int) ∧
    bits .xor .u8 (x : Int) (m : Int) = (y : Int) ∧ y < 256 ∧ y ≠ x := by
  obtain ⟨m, hm, hm8, hm0⟩ := one_bit (bit % 8) (by omega)
  refine ⟨bit % 8, m, x ^^^ m, by rw [Int.tmod_eq_emod_of_nonneg (by omega)]; omega, by omega, hm, by rw [← hm, IntKind.wrap_u8], by rw [b8_xor _ _ hx hm8], Nat.xor_lt_two_pow (n := 8) hx hm8, ?_⟩
  intro h
  apply hm0
  have e : x ^^^ (x ^^^ m) = x ^^^ x := by rw [h]
  rwa [← Nat.xor_assoc, Nat.xor_self, Nat.zero_xor] at e

theorem run_one_byte (w : World) (b c y : Nat) (hy : y < 256) (h : w.cell? ⟨b, 0, none⟩ = some (.int .u8 (y : Nat))) :
    (convert 27 9 (.slice (some ⟨b, 0, none⟩) 1 c)).run Try.prog w = .ok (.string ⟨#[UInt8.ofNat y]⟩) w := by
  have := run_convert_bytes_back (P := Try.prog) w 27 9 5 ⟨b, 0, none⟩ c [UInt8.ofNat y] Try.underlying27 Try.underlying5 Try.underlying9 (fun j hj => by
    match j, hj with
    | 0, _ =>
      show w.cell? ⟨b, 0, none⟩ = _
      rw [h]
      simp [UInt8.toNat_ofNat']
      omega)
  exact this

set_option maxHeartbeats 6000000 in
set_option maxRecDepth 100000 in
theorem sumTurns_in (t : ByteArray) (k : Nat) (bit : Nat) (hb : bit < 256) (hk : k < t.size) (ht : t.size ≤ maxLen) (w : World) :
    Calls Try.prog 4 #[.string t, .int .i64 k, .int .u8 bit] w fun e w' => e = .returned (.bool true) ∧ Below w.heap.size w w' := by
  have HT := Lib.hid ht
  unfold maxLen at ht
  have hk0 : (0 : Int) ≤ k := by omega
  have hki : (k : Int) < t.size := by omega
  have hd : decide ((t.size : Int) ≤ k) = false := by simp; omega
  have hd0 : decide ((k : Int) < 0) = false := by simp
  obtain ⟨J, m, y, hJ, hJ', hsh, hsh', hxy, hy8, hyne⟩ := turned t[k].toNat bit t[k].toNat_lt
  have HO := Lib.hid (other_byte t k y hk hy8 hyne)
  have hcv := fun W b c h => run_one_byte W b c y hy8 h
  clear hyne
  have hne : (((crc (flat [t]) : Nat) : Int) != ((crc (flat [t.extract 0 k, ⟨#[UInt8.ofNat y]⟩, t.extract (k + 1) t.size]) : Nat) : Int)) = true := by
    simpa using HO.out
  have HN := Lib.hid hne
  have hk1 : IntKind.i64.wrap ((k : Int) + 1) = (k : Int) + 1 := IntWalk.i64_in _ (by omega)
  have hk2 : (k : Int) + 1 ≤ t.size := by omega
  have hk4 : (0 : Int) ≤ (k : Int) + 1 := by omega
  have hk3 : k ≤ t.size := by omega
  have HZ1 := Lib.hid (show (t.extract 0 k).size ≤ maxLen from by have := HT.out; rw [ByteArray.size_extract]; omega)
  have HZ2 := Lib.hid (show (⟨#[UInt8.ofNat y]⟩ : ByteArray).size ≤ maxLen from (by decide : 1 ≤ maxLen))
  have HZ3 := Lib.hid (show (t.extract (k + 1) t.size).size ≤ maxLen from by have := HT.out; rw [ByteArray.size_extract]; omega)
  clear hne
  go_enter Try.func4, Try.ntmps4
  go_wp2_with (go_at_call 9; refine (known_any _).mono ?_; rintro e w1 ⟨rfl, hb1⟩)
  have hk5 : ((k : Int) + 1).toNat = k + 1 := by omega
  go_region_with     (first
    | (go_at_call 10; (with_reducible refine (sum_at _ 1 1 [t] rfl (by decide) _ ?_).mono ?_); refine strs1 HT.out ?_; ((try simp only [World.cell?_drew]); first | exact (cell1 _ _ _ _).trans rfl | exact cell2f _ _ _ _ _ _ rfl | exact (cell2s _ _ _ _ _).trans rfl | exact cell3 _ _ _ _ _ _ _ rfl | exact (cell3m _ _ _ _ _ _).trans rfl | exact (cell3l _ _ _ _ _ _).trans rfl | (simp; done)); rintro e w2 ⟨rfl, hb2⟩; (first | (have hca : w2.cell? ⟨w1.heap.size, 0, none⟩ = some (.int .u8 (y : Nat)) := bl_cell hb2 (cell2f _ _ _ _ _ _ rfl)) | (have hca : w2.cell? ⟨w1.heap.size + 1, 0, none⟩ = some (.int .u8 (y : Nat)) := bl_cell hb2 ((cell2s _ _ _ _ _).trans rfl)) | (have hca : w2.cell? ⟨w1.heap.size, 0, none⟩ = some (.int .u8 (y : Nat)) := bl_cell hb2 ((cell1 _ _ _ _).trans rfl)) | skip))
    | (go_at_call 10; (with_reducible refine (sum_at _ 3 3 [t.extract 0 k, ⟨#[UInt8.ofNat y]⟩, t.extract (k + 1) t.size] rfl (by decide) _ ?_).mono ?_); (refine strs3 HZ1.out HZ2.out HZ3.out ?_ ?_ ?_ <;> first | ((try simp only [World.cell?_drew]); first | exact (cell1 _ _ _ _).trans rfl | exact cell2f _ _ _ _ _ _ rfl | exact (cell2s _ _ _ _ _).trans rfl | exact cell3 _ _ _ _ _ _ _ rfl | exact (cell3m _ _ _ _ _ _).trans rfl | exact (cell3l _ _ _ _ _ _).trans rfl | (simp; done)) | (refine bl_cell hb2 ?_; (try simp only [World.cell?_drew]); first | exact (cell1 _ _ _ _).trans rfl | exact cell2f _ _ _ _ _ _ rfl | exact (cell2s _ _ _ _ _).trans rfl | exact cell3 _ _ _ _ _ _ _ rfl | exact (cell3m _ _ _ _ _ _).trans rfl | exact (cell3l _ _ _ _ _ _).trans rfl | (simp; done))); rintro e w3 ⟨rfl, hb3⟩; have hne := HN.out))
  all_goals
    go_wp2
    go_ret
    refine ⟨?_, ?_⟩
    · rfl
    · repeat (first | exact hb1 | refine bl_trans ?_ hb2 | refine bl_trans ?_ hb3 | refine bl_alloc ?_ _ | refine bl_drew ?_)

set_option maxHeartbeats 400000 in
theorem sumTurns_out (t : ByteArray) (k : Int) (bit : Nat) (hk : k < 0 ∨ t.size ≤ k) (w : World) :
    Calls Try.prog 4 #[.string t, .int .i64 k, .int .u8 bit] w fun e w' => e = .returned (.bool true) ∧ Below w.heap.size w w' := by
  by_cases h0 : k < 0
  · have hd0 : decide ((k : Int) < 0) = true := by simpa using h0
    go_enter Try.func4, Try.ntmps4
    go_wp2_with (go_at_call 9; refine (known_any _).mono ?_; rintro e w1 ⟨rfl, hb1⟩)
    go_ret
    exact ⟨rfl, hb1⟩
  · have hd0 : decide ((k : Int) < 0) = false := by simpa using h0
    have hd1 : decide ((t.size : Int) ≤ k) = true := by simp; omega
    go_enter Try.func4, Try.ntmps4
    go_wp2_with (go_at_call 9; refine (known_any _).mono ?_; rintro e w1 ⟨rfl, hb1⟩)
    go_ret
    exact ⟨rfl, hb1⟩
theorem sumTurns_any (t : ByteArray) (k : Int) (bit : Nat) (hb : bit < 256) (ht : t.size ≤ maxLen) (w : World) :
    Calls Try.prog 4 #[.string t, .int .i64 k, .int .u8 bit] w fun e w' => e = .returned (.bool true) ∧ Below w.heap.size w w' := by
  by_cases h : k < 0 ∨ t.size ≤ k
  · exact sumTurns_out t k bit h w
  · obtain ⟨n, rfl⟩ := Int.eq_ofNat_of_zero_le (show 0 ≤ k by omega)
    exact sumTurns_in t n bit hb (by omega) ht w
end Go.Proofs.Ytilalngihpobhaa
