/- Layer 8: two runs of entries merged in place: ranges exchanged, blocks turned. -/
import Derived.Test.YtdjpmgkcgpkkmaaTrRot
import Derived.Shelf.SlSortCmp.KitK
import Derived.BigRegion
import Derived.BigQuiet
set_option linter.unusedVariables false
set_option linter.unusedSimpArgs false
namespace Go.Proofs.Ytdjpmgkcgpkkmaa
open Go.RowKit TrMath Go.Sort Go.Shelf

/-- An array of entries stands in a block; all else that stood stands as it did. -/
structure St (w0 : World) (g : Nat) (d : Arr) (W : World) : Prop where
  holds : HoldsK encE 2 W g 0 d
  lt : g < W.heap.size
  gb : w0.grownBy W (some g)
theorem St.below {w0 W W' : World} {g : Nat} {d : Arr} (h : St w0 g d W) (hb : Below W.heap.size W W') : St w0 g d W' := by
  obtain ⟨c1, c2⟩ := bcell hb
  exact ⟨fun j hj => by rw [c1 _ _ h.lt, c2 _ _ h.lt]; exact h.holds j hj, Nat.lt_of_lt_of_le h.lt hb.size, gb_below h.gb hb⟩
theorem St.sw {w0 W W' : World} {g : Nat} {d e : Arr} (h : St w0 g d W) (k : SW W g e W') (hs : e.size = d.size) : St w0 g e W' :=
  ⟨sw_holds h.holds hs h.lt k, Nat.lt_of_lt_of_le h.lt (sw_grown k).size, gb_trans h.gb (sw_grown k) fun i hi => .inl hi⟩
theorem St.cells {w0 W : World} {g : Nat} {d : Arr} (h : St w0 g d W) {i : Nat} (hi : i < d.size) {p : ByteArray} {x : Int} (e : d[i]! = (p, x)) :
    W.cell? ⟨g, i * 2, none⟩ = some (.string p) ∧ W.cell? ⟨g, i * 2 + 1, none⟩ = some (.int .u32 x) ∧ W.frozen? ⟨g, i * 2, none⟩ = false ∧ W.frozen? ⟨g, i * 2 + 1, none⟩ = false := by
  have h1 := HoldsK.cell h.holds hi (c := 0) (by omega)
  have h2 := HoldsK.cell h.holds hi (c := 1) (by omega)
  rw [e] at h1 h2
  simp only [Nat.zero_add, Nat.add_zero] at h1 h2
  exact ⟨h1.1, h2.1, h1.2, h2.2⟩
theorem St.swap {w0 W : World} {g : Nat} {d : Arr} (h : St w0 g d W) {i j : Nat} (hi : i < d.size) (hj : j < d.size) {p q : ByteArray} {x y : Int} (e1 : d[i]! = (p, x)) (e2 : d[j]! = (q, y)) :
    St w0 g (swp d i j) ((((W.setCell ⟨g, i * 2, none⟩ (.string q)).setCell ⟨g, i * 2 + 1, none⟩ (.int .u32 y)).setCell ⟨g, j * 2, none⟩ (.string p)).setCell ⟨g, j * 2 + 1, none⟩ (.int .u32 x)).drew := by
  have R : RowK encE 2 W g 0 d := ⟨encE_len, encE_one, h.holds, h.lt⟩
  have k := SWK.swapped (SWK.start h.holds) R i j hi hj
  rw [e1, e2, Nat.zero_add, Nat.zero_add] at k
  exact h.sw k (Sort.swp_size _ _ _)

set_option maxHeartbeats 4000000 in
set_option maxRecDepth 100000 in
theorem swapRange (w0 : World) (g cap a b n : Nat) (d : Arr) (f : Value) (hab : a + n ≤ b) (hbn : b + n ≤ d.size) (hsz : d.size ≤ 1000000000) (w : World) (h : St w0 g d w) :
    Calls Try.prog 85 #[.slice (some ⟨g, 0, none⟩) d.size cap, .int .i64 a, .int .i64 b, .int .i64 n, f] w fun e w' => e = .returned (.tuple #[]) ∧ St w0 g (swpN a b n d) w' := by
  have H0 := Lib.hid h
  clear h
  obtain ⟨z, hz⟩ : ∃ z, d.size = z := ⟨_, rfl⟩
  have HZ := Lib.hid hz
  rw [hz] at hbn hsz
  rw [hz]
  clear hz
  go_enter Try.func85, Try.ntmps85
  go_wp2
  go_loopw [10] (fun iv wr => ∃ i : Nat, i ≤ n ∧ iv = .int .i64 i ∧ St w0 g (swpN a b i d) wr) (fun iv _ => n - (intOf iv).toNat)
  case atStart => exact ⟨0, Nat.zero_le _, rfl, H0.out⟩
  case round =>
    obtain ⟨i, hi, rfl, hst⟩ := hrel
    have HS := Lib.hid hst
    have hes : (swpN a b i d).size = z := by rw [swpN_size]; exact HZ.out
    obtain ⟨e, he⟩ : ∃ e, swpN a b i d = e := ⟨_, rfl⟩
    rw [he] at HS hes hst
    have HE := Lib.hid he
    clear he hst
    by_cases hlt : i < n
    · obtain ⟨p, x, hx⟩ : ∃ p x, e[a + i]! = (p, x) := ⟨_, _, rfl⟩
      obtain ⟨q, y, hy⟩ : ∃ p x, e[b + i]! = (p, x) := ⟨_, _, rfl⟩
      obtain ⟨p1, p2, p3, p4⟩ := HS.out.cells (by omega) hx
      obtain ⟨q1, q2, q3, q4⟩ := HS.out.cells (by omega) hy
      have HR := Lib.hid (HS.out.swap (by omega) (by omega) hx hy)
      have e1 : ((a : Int) + (i : Int)).toNat = a + i := by omega
      have e2 : ((b : Int) + (i : Int)).toNat = b + i := by omega
      clear hx hy
      go_wp2_with fail
      go_region
      go_wp2
      go_roundw
      case rel => exact ⟨i + 1, by omega, by go_num, by rw [swpN, HE.out]; exact HR.out⟩
      case measure => simp [intOf]; omega
    · obtain rfl : i = n := by omega
      go_wp2
      go_end0
      exact ⟨rfl, by rw [HE.out]; exact HS.out⟩

set_option maxHeartbeats 4000000 in
set_option maxRecDepth 100000 in
theorem rotateC (w0 : World) (g cap a m b : Nat) (d : Arr) (f : Value) (ham : a < m) (hmb : m < b) (hb : b ≤ d.size) (hsz : d.size ≤ 1000000000) (w : World) (h : St w0 g d w) :
    Calls Try.prog 82 #[.slice (some ⟨g, 0, none⟩) d.size cap, .int .i64 a, .int .i64 m, .int .i64 b, f] w fun r w' => r = .returned (.tuple #[]) ∧ ∃ e, IsRot a m b d e ∧ St w0 g e w' := by
  have H0 := Lib.hid h
  obtain ⟨z, hz⟩ : ∃ z, d.size = z := ⟨_, rfl⟩
  have HZ := Lib.hid hz
  have HSw := Lib.hid (fun W e p q n (he : e.size = z) (h1 : p + n ≤ q) (h2 : q + n ≤ z) (hW : St w0 g e W) => (show Calls Try.prog 85 #[.slice (some ⟨g, 0, none⟩) z cap, .int .i64 (p : Nat), .int .i64 (q : Nat), .int .i64 (n : Nat), f] W fun r w' => r = .returned (.tuple #[]) ∧ St w0 g (swpN p q n e) w' by
    have := swapRange w0 g cap p q n e f h1 (by omega) (by omega) W hW
    rw [he] at this
    exact this))
  rw [hz] at hb hsz
  rw [hz]
  obtain ⟨i0, hi0⟩ : ∃ i, m - a = i := ⟨_, rfl⟩
  obtain ⟨j0, hj0⟩ : ∃ j, b - m = j := ⟨_, rfl⟩
  have hiz : (m : Int) - (a : Int) = (i0 : Int) := by omega
  have hjz : (b : Int) - (m : Int) = (j0 : Int) := by omega
  have HST := Lib.hid (show ∀ e, IsRot (m - i0) m (m + j0) d e → IsRot a m b d e by intro e he; rw [show m - i0 = a from by omega, show m + j0 = b from by omega] at he; exact he)
  have hi1 : 0 < i0 := by omega
  have hj1 : 0 < j0 := by omega
  have him : i0 ≤ m := by omega
  have hjm : m + j0 ≤ z := by omega
  have hmz : m ≤ z := by omega
  have haz : a ≤ z := by omega
  clear h hz hi0 hj0 ham hmb
  go_enter Try.func82, Try.ntmps82
  go_wp2
  go_loopw [10, 11] (fun iv jv wr => ∃ (i j : Nat) (e : Arr), 0 < i ∧ 0 < j ∧ i ≤ m ∧ m + j ≤ z ∧ iv = .int .i64 i ∧ jv = .int .i64 j ∧ e.size = z ∧ St w0 g e wr ∧ ∀ f, IsRot (m - i) m (m + j) e f → IsRot a m b d f) (fun iv jv _ => (intOf iv).toNat + (intOf jv).toNat)
  case atStart => exact ⟨i0, j0, d, hi1, hj1, him, hjm, rfl, rfl, HZ.out, H0.out, HST.out⟩
  case round =>
    obtain ⟨i, j, e, hi, hj, hi2, hj2, rfl, rfl, hes, hst, hrot⟩ := hrel
    have HS := Lib.hid hst; have HR := Lib.hid hrot; have HES := Lib.hid hes
    clear hst hrot hes
    clear hi1 hj1 him hjm hiz hjz
    obtain ⟨q, hq⟩ : ∃ q, m - i = q := ⟨_, rfl⟩
    have hqz : (m : Int) - (i : Int) = (q : Int) := by omega
    rcases Nat.lt_trichotomy i j with hij | hij | hij
    · obtain ⟨r, hr⟩ : ∃ r, m + j - i = r := ⟨_, rfl⟩
      obtain ⟨j2, hj3⟩ : ∃ r, j - i = r := ⟨_, rfl⟩
      have hrz : (m : Int) + (j : Int) - (i : Int) = (r : Int) := by omega
      have hjz : (j : Int) - (i : Int) = (j2 : Int) := by omega
      have hne : ((i : Int) != (j : Int)) = true := by simp; omega
      have HC := Lib.hid (HSw.out wr e q r i HES.out (by omega) (by omega) HS.out)
      have HR2 := Lib.hid (show ∀ f, IsRot (m - i) m (m + j2) (swpN q r i e) f → IsRot a m b d f from fun f hf => HR.out f (rot_lt hi hij hi2 (by rw [HES.out]; exact hj2) (by rw [hj3, hq, hr]; rw [hq] at hf; exact hf)))
      go_wp2_with (go_at_call 85; (with_reducible refine (HC.out).mono ?_); rintro r w2 ⟨rfl, hst2⟩; have HS2 := Lib.hid hst2; clear hst2)
      go_roundw
      case rel => exact ⟨i, j2, _, hi, by omega, hi2, by omega, rfl, rfl, by rw [swpN_size]; exact HES.out, HS2.out, HR2.out⟩
      case measure => simp [intOf]; omega
    · subst hij
      have hne : ((i : Int) != (i : Int)) = false := by simp
      have HC := Lib.hid (HSw.out wr e q m i HES.out (by omega) (by omega) HS.out)
      have HF := Lib.hid (show IsRot a m b d (swpN q m i e) from HR.out _ (by have := rot_eq (d := e) hi2 (by rw [HES.out]; exact hj2); rw [hq] at this ⊢; exact this))
      go_wp2_with (go_at_call 85; (with_reducible refine (HC.out).mono ?_); rintro r w2 ⟨rfl, hst2⟩; have HS2 := Lib.hid hst2; clear hst2)
      go_end0
      exact ⟨rfl, _, HF.out, HS2.out⟩
    · obtain ⟨i2, hi3⟩ : ∃ r, i - j = r := ⟨_, rfl⟩
      have hiz : (i : Int) - (j : Int) = (i2 : Int) := by omega
      have hne : ((i : Int) != (j : Int)) = true := by simp; omega
      have HC := Lib.hid (HSw.out wr e q m j HES.out (by omega) (by omega) HS.out)
      have HR2 := Lib.hid (show ∀ f, IsRot (m - i2) m (m + j) (swpN q m j e) f → IsRot a m b d f from fun f hf => HR.out f (rot_gt hj hij hi2 (by rw [HES.out]; exact hj2) (by rw [hi3, hq]; exact hf)))
      go_wp2_with (go_at_call 85; (with_reducible refine (HC.out).mono ?_); rintro r w2 ⟨rfl, hst2⟩; have HS2 := Lib.hid hst2; clear hst2)
      go_roundw
      case rel => exact ⟨i2, j, _, by omega, hj, by omega, hj2, rfl, rfl, by rw [swpN_size]; exact HES.out, HS2.out, HR2.out⟩
      case measure => simp [intOf]; omega
end Go.Proofs.Ytdjpmgkcgpkkmaa
