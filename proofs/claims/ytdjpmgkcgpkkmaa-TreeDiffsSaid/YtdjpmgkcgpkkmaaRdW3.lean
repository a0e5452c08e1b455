/- Walks of layer 2: the two readers: numbers of some bytes. -/
import Derived.Test.YtdjpmgkcgpkkmaaRdW2
import Derived.Test.YtdjpmgkcgpkkmaaRdMath2
set_option linter.unusedVariables false
set_option linter.unusedSimpArgs false
namespace Go.Proofs.Ytdjpmgkcgpkkmaa
open Go.RowKit PackMath

theorem IsRd.below {T : TypeId} {w w' : World} {p : Nat} {s : ByteArray} {a e : Nat} (h : IsRd T w p s a e) (k : Below w.heap.size w w') : IsRd T w' p s a e :=
  ⟨by rw [k.block p (Array.getElem?_eq_some_iff.1 h.cell).1]; exact h.cell, h.le, h.small⟩

theorem rRaw_at (p : Nat) (s : ByteArray) (a e : Nat) (w : World) (n : Int) (m : Nat) (hnm : n = m) (h : IsRd TR w p s a e) (hn1 : m < 9223372036854775808) :
    Calls Try.prog 71 #[.pointer (some ⟨p, 0, none⟩), .int .i64 n] w fun r w' => ∃ t f b g, rawR s a e m = ((t, f), (b, g)) ∧ r = .returned (.tuple #[.string t, .int .i64 (f : Nat)]) ∧ Kept w w' p ∧ IsRd TR w' p s b g := by
  subst hnm
  refine (rRaw p s a e w m h (by omega) (by omega)).mono ?_
  rintro r w1 ⟨rfl, h1, h2⟩
  exact ⟨_, _, _, _, rfl, rfl, h1, h2⟩

set_option maxHeartbeats 800000 in
set_option maxRecDepth 100000 in
theorem rFixed (p : Nat) (s : ByteArray) (a e n : Nat) (w : World) (h : IsRd TR w p s a e) (hn : n ≤ 8) :
    Calls Try.prog 69 #[.pointer (some ⟨p, 0, none⟩), .int .i64 n] w fun r w' => r = .returned (.tuple #[.int .u64 (numR s a e n).1.1, .int .i64 (numR s a e n).1.2]) ∧ Kept w w' p ∧ IsRd TR w' p s (numR s a e n).2.1 (numR s a e n).2.2 := by
  have HR := Lib.hid h
  clear h
  have hcv := fun w t => run_bytes_of_string (P := Try.prog) w 9 80 5 t Try.underlying9 Try.underlying80 Try.underlying5
  go_enter Try.func69, Try.ntmps69
  go_wp2_with (go_at_call 71; refine (rRaw_at p s a e w _ n rfl HR.out (by omega)).mono ?_; rintro r w1 ⟨t, f, b, g, hR, rfl, hk⟩; obtain ⟨hN, ht⟩ := numR_raw HR.out.le hR; have HN := Lib.hid hN; have HK := Lib.hid hk; clear hR hN hk)
  generalize grownCap w1 t.size 0 5 = cap
  generalize hwv : (w1.alloc (.cells (bytesRow t cap) 5 ((bytesRow t cap).size, (bytesRow t cap).size + 1))).drew = wv
  have HB := Lib.hid (show Below w1.heap.size w1 wv by rw [← hwv]; exact ((Below.refl _ _).alloc (Nat.le_refl _) _).drew)
  have HC := Lib.hid (show ∀ i (h : i < t.size), wv.cell? ⟨w1.heap.size, i, none⟩ = some (.int .u8 (t[i].toNat : Nat)) from fun i h => by
    rw [← hwv]; show (w1.alloc _).cell? _ = _; rw [World.cell?_alloc_mark, bytesRow_at t _ i h]; rfl)
  clear hwv hcv
  go_loop [8, 20] (fun v i => ∃ k : Nat, k ≤ t.size ∧ i = .int .i64 k ∧ v = .int .u64 (num (t.data.toList.take k))) (fun _ i => t.size - (intOf i).toNat)
  case atStart => exact ⟨0, Nat.zero_le _, rfl, rfl⟩
  case round =>
    obtain ⟨k, hk, rfl, rfl⟩ := hrel
    by_cases hlt : k < t.size
    · have hel := num_take_lt t.data.toList k (by omega)
      have HE := Lib.hid (num_take t k hlt)
      have hcell := HC.out k hlt
      generalize hx : t[k] = x at hcell
      generalize he : num (t.data.toList.take k) = v at hel
      rw [hx, he] at HE
      have hxl := x.toNat_lt
      have hor : bits .or .u64 ((v : Int) * 256) (x.toNat : Int) = (v : Int) * 256 + (x.toNat : Int) := by
        have h := u64_or_nat (v * 256) x.toNat (by omega) (by omega)
        rw [or256 _ _ hxl, Int.natCast_mul, Int.natCast_add, Int.natCast_mul] at h
        exact h
      go_wp2
      go_round
      case rel => exact ⟨k + 1, by omega, by go_num, by rw [HE.out]; first | rfl | (rw [Int.natCast_add, Int.natCast_mul]; rfl)⟩
      case measure => simp [intOf]; omega
    · obtain rfl : k = t.size := by omega
      go_wp2
      go_ret2
      rw [HN.out]
      refine ⟨?_, HK.out.1.trans (Kept.ofBelow p HB.out), HK.out.2.below HB.out⟩
      rw [List.take_of_length_le (by simp)]
      rfl
end Go.Proofs.Ytdjpmgkcgpkkmaa
