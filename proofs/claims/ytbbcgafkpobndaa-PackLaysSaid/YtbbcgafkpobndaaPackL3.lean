/- Walks of layer 2: 'same'. -/
import Derived.Test.YtbbcgafkpobndaaLyMath
import Derived.BigQuiet
set_option linter.unusedVariables false
set_option linter.unusedSimpArgs false
namespace Go.Proofs.Ytbbcgafkpobndaa
open Go.RowKit PackMath

theorem same_no {s : ByteArray} {l r : List OpD} {d : OpD} {a0 e0 a e b g : Nat} (h : sameR s l a0 e0 = sameR s (d :: r) a e) (h1 : oneR s a e d.k d.n d.s = (false, b, g)) : sameR s l a0 e0 = (false, b, g) := by
  rw [h, sameR, h1]; simp
theorem same_yes {s : ByteArray} {l r : List OpD} {d : OpD} {a0 e0 a e b g : Nat} (h : sameR s l a0 e0 = sameR s (d :: r) a e) (h1 : oneR s a e d.k d.n d.s = (true, b, g)) : sameR s l a0 e0 = sameR s r b g := by
  rw [h, sameR, h1]; simp
theorem toList_inj {a b : ByteArray} (h : a.toList = b.toList) : a = b := by
  rw [ByteArray.toList_eq, ByteArray.toList_eq] at h
  exact ByteArray.ext (Array.toList_inj.1 h)
theorem rd_box {w w1 : World} {p : Nat} {s : ByteArray} {a e : Nat} (h : IsRd TR w p s a e) {o : Obj} (k : Kept (w.alloc o) w1 p) {i : Nat} {v : Value} (hc : (w.alloc o).cell? ⟨w.heap.size, i, none⟩ = some v) : w1.cell? ⟨w.heap.size, i, none⟩ = some v := by
  have hp := (Array.getElem?_eq_some_iff.1 h.cell).1
  rw [World.cell?_of_block (k.block w.heap.size (by simp) (by omega))]
  exact hc
theorem u64_mask (n k M L : Nat) (hn : n < 18446744073709551616) (hM : M < 18446744073709551616) (h : M = 2 ^ k - 1) (hL : L = 2 ^ k) : bits .and .u64 (n : Int) (M : Int) = ((n % L : Nat) : Int) := by
  rw [u64_and_nat n M hn hM, h, hL, Nat.and_two_pow_sub_one_eq_mod]
theorem one_k0 {s : ByteArray} {a e k n v f b g : Nat} {o : ByteArray} (hj : k % 7 = 0) (h : numR s a e 1 = ((v, f), (b, g))) : oneR s a e k n o = (decide (f = 0 ∧ v = n % 256), b, g) := by
  unfold oneR; simp only [hj, h]
theorem one_k1 {s : ByteArray} {a e k n v f b g : Nat} {o : ByteArray} (hj : k % 7 = 1) (h : numR s a e 2 = ((v, f), (b, g))) : oneR s a e k n o = (decide (f = 0 ∧ v = n % 65536), b, g) := by
  unfold oneR; simp only [hj, h]
theorem one_k2 {s : ByteArray} {a e k n v f b g : Nat} {o : ByteArray} (hj : k % 7 = 2) (h : numR s a e 4 = ((v, f), (b, g))) : oneR s a e k n o = (decide (f = 0 ∧ v = n % 4294967296), b, g) := by
  unfold oneR; simp only [hj, h]
theorem one_k3 {s : ByteArray} {a e k n v f b g : Nat} {o : ByteArray} (hj : k % 7 = 3) (h : numR s a e 8 = ((v, f), (b, g))) : oneR s a e k n o = (decide (f = 0 ∧ v = n), b, g) := by
  unfold oneR; simp only [hj, h]
theorem one_k4 {s : ByteArray} {a e k n v f b g : Nat} {o : ByteArray} (hj : k % 7 = 4) (h : shortR s a e = ((v, f), (b, g))) : oneR s a e k n o = (decide (f = 0 ∧ v = n), b, g) := by
  unfold oneR; simp only [hj, h]
theorem one_k5 {s : ByteArray} {a e k n f b g : Nat} {o v : ByteArray} (hj : k % 7 = 5) (h : rawR s a e o.size = ((v, f), (b, g))) : oneR s a e k n o = (decide (f = 0 ∧ v = o), b, g) := by
  unfold oneR; simp only [hj, h]
theorem one_k6 {s : ByteArray} {a e k n f b g : Nat} {o v : ByteArray} (hj : k % 7 = 6) (h : textR s a e o.size = ((v, f), (b, g))) : oneR s a e k n o = (decide (f = 0 ∧ v = o), b, g) := by
  unfold oneR; simp only [hj, h]

set_option maxHeartbeats 8000000 in
set_option maxRecDepth 100000 in
theorem same_any (w0 : World) (p : Nat) (s : ByteArray) (ad : Option Addr) (cap : Nat) (l : List OpD) (a0 e0 : Nat) (w : World) (hl : l.length ≤ maxLen) (hz : ∀ d ∈ l, d.s.size ≤ maxLen) (h : OpsAt w0 ad l)
    (hb : Below w0.heap.size w0 w) (hp : w0.heap.size ≤ p) (hr : IsRd TR w p s a0 e0) :
    Calls Try.prog 28 #[.pointer (some ⟨p, 0, none⟩), .slice ad l.length cap] w fun r w' => r = .returned (.bool (sameR s l a0 e0).1) ∧ IsRd TR w' p s (sameR s l a0 e0).2.1 (sameR s l a0 e0).2.2 ∧ Below w0.heap.size w0 w' := by
  unfold maxLen at hl
  have HO := Lib.hid h
  have HZ := Lib.hid hz
  have HP := Lib.hid hp
  have HB := Lib.hid hb
  have HR := Lib.hid hr
  clear h hz hp hb hr
  go_enter Try.func28, Try.ntmps28
  go_wp2
  go_loopw [20] (fun i wr => ∃ k a e : Nat, k ≤ l.length ∧ i = .int .i64 k ∧ IsRd TR wr p s a e ∧ Below w0.heap.size w0 wr ∧ sameR s l a0 e0 = sameR s (l.drop k) a e) (fun i _ => l.length - (intOf i).toNat)
  case atStart => exact ⟨0, a0, e0, Nat.zero_le _, rfl, HR.out, HB.out, rfl⟩
  case round =>
    obtain ⟨k, a, e, hk, rfl, ht, hbb, hs⟩ := hrel
    have HRk := Lib.hid ht; have HBB := Lib.hid hbb; have HS := Lib.hid hs
    clear ht hbb hs
    by_cases hlt : k < l.length
    · obtain ⟨x1, x2, b0, off, rfl, x4, x5, x6, x7⟩ := HO.out.below HBB.out k hlt
      have HS2 := Lib.hid (HS.out.trans (by rw [List.drop_eq_getElem_cons hlt]))
      have hz := HZ.out l[k] (List.getElem_mem hlt)
      unfold maxLen at hz
      generalize l[k] = o at x1 x2 x5 x6 x7 hz HS2
      have HBX := Lib.hid (HBB.out.alloc HBB.out.size (.cells #[.int .u8 o.k, .int .u64 o.n, .string o.s] 31))
      have HRX := Lib.hid (HRk.out.below (bl_alloc (Below.refl _ _) (.cells #[.int .u8 o.k, .int .u64 o.n, .string o.s] 31)))
      rcases (show o.k % 7 = 0 ∨ o.k % 7 = 1 ∨ o.k % 7 = 2 ∨ o.k % 7 = 3 ∨ o.k % 7 = 4 ∨ o.k % 7 = 5 ∨ o.k % 7 = 6 by omega) with hj | hj | hj | hj | hj | hj | hj
      · have hmod : (o.k : Int) % 7 = 0 := by omega
        obtain ⟨v, f, b, g, hN⟩ : ∃ v f b g, numR s a e 1 = ((v, f), (b, g)) := ⟨_, _, _, _, rfl⟩
        have HN := Lib.hid hN
        have HONE := Lib.hid (one_k0 (n := o.n) (o := o.s) hj hN)
        have hv8 : v < 256 := by have := numR_lt s a e 1; rw [hN] at this; exact this
        have hand : bits .and .u64 (o.n : Int) 255 = ((o.n % 256 : Nat) : Int) := u64_mask o.n 8 255 256 x2 (by decide) rfl rfl
        clear hj hN
        by_cases hf : f = 0
        · have hcf : ((f : Int) != 0) = false := by simp; omega
          by_cases hv : v = o.n % 256
          · have hc0 : ((v : Int) != (o.n : Int) % 256) = false := by simp; omega
            have HY := Lib.hid (same_yes (b := b) (g := g) HS2.out (by rw [HONE.out]; simp [hf, hv]))
            go_wp2_with (go_at_call 22; (with_reducible refine (rU8_ex p s a e _ v f b g HN.out HRX.out).mono ?_); rintro r w1 ⟨rfl, hh⟩; have HK1 := Lib.hid hh; have hbx := rd_box HRk.out hh.1 (i := 1) (v := .int .u64 o.n) (by rw [World.cell?_alloc_mark]; rfl); have HBN := Lib.hid (HBX.out.trans (hh.1.below HP.out (Nat.le_trans HBB.out.size (by simp)))); clear hh)
            go_quiet (fail)
            go_wp2
            go_roundw
            case rel => exact ⟨k + 1, b, g, by omega, by go_num, (HK1.out.2.drewN _), (below_drewN HBN.out _), HY.out⟩
            case measure => simp [intOf]; omega
          · have hc0 : ((v : Int) != (o.n : Int) % 256) = true := by simp; omega
            have HY := Lib.hid (same_no (b := b) (g := g) HS2.out (by rw [HONE.out]; simp [hf, hv]))
            go_wp2_with (go_at_call 22; (with_reducible refine (rU8_ex p s a e _ v f b g HN.out HRX.out).mono ?_); rintro r w1 ⟨rfl, hh⟩; have HK1 := Lib.hid hh; have hbx := rd_box HRk.out hh.1 (i := 1) (v := .int .u64 o.n) (by rw [World.cell?_alloc_mark]; rfl); have HBN := Lib.hid (HBX.out.trans (hh.1.below HP.out (Nat.le_trans HBB.out.size (by simp)))); clear hh)
            go_quiet (fail)
            go_wp2
            first | go_ret | go_ret2 | go_ret3
            exact ⟨(by rw [HY.out]; first | done | rfl), by rw [HY.out]; exact (HK1.out.2.drewN _), (below_drewN HBN.out _)⟩
        · have hc0 : ((f : Int) != 0) = true := by simp; omega
          have HY := Lib.hid (same_no (b := b) (g := g) HS2.out (by rw [HONE.out]; simp [hf]))
          go_wp2_with (go_at_call 22; (with_reducible refine (rU8_ex p s a e _ v f b g HN.out HRX.out).mono ?_); rintro r w1 ⟨rfl, hh⟩; have HK1 := Lib.hid hh; have hbx := rd_box HRk.out hh.1 (i := 1) (v := .int .u64 o.n) (by rw [World.cell?_alloc_mark]; rfl); have HBN := Lib.hid (HBX.out.trans (hh.1.below HP.out (Nat.le_trans HBB.out.size (by simp)))); clear hh)
          go_quiet (fail)
          go_wp2
          first | go_ret | go_ret2 | go_ret3
          exact ⟨(by rw [HY.out]; first | done | rfl), by rw [HY.out]; exact (HK1.out.2.drewN _), (below_drewN HBN.out _)⟩
      · have hmod : (o.k : Int) % 7 = 1 := by omega
        obtain ⟨v, f, b, g, hN⟩ : ∃ v f b g, numR s a e 2 = ((v, f), (b, g)) := ⟨_, _, _, _, rfl⟩
        have HN := Lib.hid hN
        have HONE := Lib.hid (one_k1 (n := o.n) (o := o.s) hj hN)
        have hv8 : v < 65536 := by have := numR_lt s a e 2; rw [hN] at this; exact this
        have hand : bits .and .u64 (o.n : Int) 65535 = ((o.n % 65536 : Nat) : Int) := u64_mask o.n 16 65535 65536 x2 (by decide) rfl rfl
        clear hj hN
        by_cases hf : f = 0
        · have hcf : ((f : Int) != 0) = false := by simp; omega
          by_cases hv : v = o.n % 65536
          · have hc0 : ((v : Int) != (o.n : Int) % 65536) = false := by simp; omega
            have HY := Lib.hid (same_yes (b := b) (g := g) HS2.out (by rw [HONE.out]; simp [hf, hv]))
            go_wp2_with (go_at_call 40; (with_reducible refine (rU16_ex p s a e _ v f b g HN.out HRX.out).mono ?_); rintro r w1 ⟨rfl, hh⟩; have HK1 := Lib.hid hh; have hbx := rd_box HRk.out hh.1 (i := 1) (v := .int .u64 o.n) (by rw [World.cell?_alloc_mark]; rfl); have HBN := Lib.hid (HBX.out.trans (hh.1.below HP.out (Nat.le_trans HBB.out.size (by simp)))); clear hh)
            go_quiet (fail)
            go_wp2
            go_roundw
            case rel => exact ⟨k + 1, b, g, by omega, by go_num, (HK1.out.2.drewN _), (below_drewN HBN.out _), HY.out⟩
            case measure => simp [intOf]; omega
          · have hc0 : ((v : Int) != (o.n : Int) % 65536) = true := by simp; omega
            have HY := Lib.hid (same_no (b := b) (g := g) HS2.out (by rw [HONE.out]; simp [hf, hv]))
            go_wp2_with (go_at_call 40; (with_reducible refine (rU16_ex p s a e _ v f b g HN.out HRX.out).mono ?_); rintro r w1 ⟨rfl, hh⟩; have HK1 := Lib.hid hh; have hbx := rd_box HRk.out hh.1 (i := 1) (v := .int .u64 o.n) (by rw [World.cell?_alloc_mark]; rfl); have HBN := Lib.hid (HBX.out.trans (hh.1.below HP.out (Nat.le_trans HBB.out.size (by simp)))); clear hh)
            go_quiet (fail)
            go_wp2
            first | go_ret | go_ret2 | go_ret3
            exact ⟨(by rw [HY.out]; first | done | rfl), by rw [HY.out]; exact (HK1.out.2.drewN _), (below_drewN HBN.out _)⟩
        · have hc0 : ((f : Int) != 0) = true := by simp; omega
          have HY := Lib.hid (same_no (b := b) (g := g) HS2.out (by rw [HONE.out]; simp [hf]))
          go_wp2_with (go_at_call 40; (with_reducible refine (rU16_ex p s a e _ v f b g HN.out HRX.out).mono ?_); rintro r w1 ⟨rfl, hh⟩; have HK1 := Lib.hid hh; have hbx := rd_box HRk.out hh.1 (i := 1) (v := .int .u64 o.n) (by rw [World.cell?_alloc_mark]; rfl); have HBN := Lib.hid (HBX.out.trans (hh.1.below HP.out (Nat.le_trans HBB.out.size (by simp)))); clear hh)
          go_quiet (fail)
          go_wp2
          first | go_ret | go_ret2 | go_ret3
          exact ⟨(by rw [HY.out]; first | done | rfl), by rw [HY.out]; exact (HK1.out.2.drewN _), (below_drewN HBN.out _)⟩
      · have hmod : (o.k : Int) % 7 = 2 := by omega
        obtain ⟨v, f, b, g, hN⟩ : ∃ v f b g, numR s a e 4 = ((v, f), (b, g)) := ⟨_, _, _, _, rfl⟩
        have HN := Lib.hid hN
        have HONE := Lib.hid (one_k2 (n := o.n) (o := o.s) hj hN)
        have hv8 : v < 4294967296 := by have := numR_lt s a e 4; rw [hN] at this; exact this
        have hand : bits .and .u64 (o.n : Int) 4294967295 = ((o.n % 4294967296 : Nat) : Int) := u64_mask o.n 32 4294967295 4294967296 x2 (by decide) rfl rfl
        clear hj hN
        by_cases hf : f = 0
        · have hcf : ((f : Int) != 0) = false := by simp; omega
          by_cases hv : v = o.n % 4294967296
          · have hc0 : ((v : Int) != (o.n : Int) % 4294967296) = false := by simp; omega
            have HY := Lib.hid (same_yes (b := b) (g := g) HS2.out (by rw [HONE.out]; simp [hf, hv]))
            go_wp2_with (go_at_call 41; (with_reducible refine (rU32_ex p s a e _ v f b g HN.out HRX.out).mono ?_); rintro r w1 ⟨rfl, hh⟩; have HK1 := Lib.hid hh; have hbx := rd_box HRk.out hh.1 (i := 1) (v := .int .u64 o.n) (by rw [World.cell?_alloc_mark]; rfl); have HBN := Lib.hid (HBX.out.trans (hh.1.below HP.out (Nat.le_trans HBB.out.size (by simp)))); clear hh)
            go_quiet (fail)
            go_wp2
            go_roundw
            case rel => exact ⟨k + 1, b, g, by omega, by go_num, (HK1.out.2.drewN _), (below_drewN HBN.out _), HY.out⟩
            case measure => simp [intOf]; omega
          · have hc0 : ((v : Int) != (o.n : Int) % 4294967296) = true := by simp; omega
            have HY := Lib.hid (same_no (b := b) (g := g) HS2.out (by rw [HONE.out]; simp [hf, hv]))
            go_wp2_with (go_at_call 41; (with_reducible refine (rU32_ex p s a e _ v f b g HN.out HRX.out).mono ?_); rintro r w1 ⟨rfl, hh⟩; have HK1 := Lib.hid hh; have hbx := rd_box HRk.out hh.1 (i := 1) (v := .int .u64 o.n) (by rw [World.cell?_alloc_mark]; rfl); have HBN := Lib.hid (HBX.out.trans (hh.1.below HP.out (Nat.le_trans HBB.out.size (by simp)))); clear hh)
            go_quiet (fail)
            go_wp2
            first | go_ret | go_ret2 | go_ret3
            exact ⟨(by rw [HY.out]; first | done | rfl), by rw [HY.out]; exact (HK1.out.2.drewN _), (below_drewN HBN.out _)⟩
        · have hc0 : ((f : Int) != 0) = true := by simp; omega
          have HY := Lib.hid (same_no (b := b) (g := g) HS2.out (by rw [HONE.out]; simp [hf]))
          go_wp2_with (go_at_call 41; (with_reducible refine (rU32_ex p s a e _ v f b g HN.out HRX.out).mono ?_); rintro r w1 ⟨rfl, hh⟩; have HK1 := Lib.hid hh; have hbx := rd_box HRk.out hh.1 (i := 1) (v := .int .u64 o.n) (by rw [World.cell?_alloc_mark]; rfl); have HBN := Lib.hid (HBX.out.trans (hh.1.below HP.out (Nat.le_trans HBB.out.size (by simp)))); clear hh)
          go_quiet (fail)
          go_wp2
          first | go_ret | go_ret2 | go_ret3
          exact ⟨(by rw [HY.out]; first | done | rfl), by rw [HY.out]; exact (HK1.out.2.drewN _), (below_drewN HBN.out _)⟩
      · have hmod : (o.k : Int) % 7 = 3 := by omega
        obtain ⟨v, f, b, g, hN⟩ : ∃ v f b g, numR s a e 8 = ((v, f), (b, g)) := ⟨_, _, _, _, rfl⟩
        have HN := Lib.hid hN
        have HONE := Lib.hid (one_k3 (n := o.n) (o := o.s) hj hN)
        have hv8 : v < 18446744073709551616 := by have := numR_lt s a e 8; rw [hN] at this; exact this
        clear hj hN
        by_cases hf : f = 0
        · have hcf : ((f : Int) != 0) = false := by simp; omega
          by_cases hv : v = o.n
          · have hc0 : ((v : Int) != (o.n : Int)) = false := by simp; omega
            have HY := Lib.hid (same_yes (b := b) (g := g) HS2.out (by rw [HONE.out]; simp [hf, hv]))
            go_wp2_with (go_at_call 25; (with_reducible refine (rU64_ex p s a e _ v f b g HN.out HRX.out).mono ?_); rintro r w1 ⟨rfl, hh⟩; have HK1 := Lib.hid hh; have hbx := rd_box HRk.out hh.1 (i := 1) (v := .int .u64 o.n) (by rw [World.cell?_alloc_mark]; rfl); have HBN := Lib.hid (HBX.out.trans (hh.1.below HP.out (Nat.le_trans HBB.out.size (by simp)))); clear hh)
            (try go_wp2)
            go_roundw
            case rel => exact ⟨k + 1, b, g, by omega, by go_num, HK1.out.2, HBN.out, HY.out⟩
            case measure => simp [intOf]; omega
          · have hc0 : ((v : Int) != (o.n : Int)) = true := by simp; omega
            have HY := Lib.hid (same_no (b := b) (g := g) HS2.out (by rw [HONE.out]; simp [hf, hv]))
            go_wp2_with (go_at_call 25; (with_reducible refine (rU64_ex p s a e _ v f b g HN.out HRX.out).mono ?_); rintro r w1 ⟨rfl, hh⟩; have HK1 := Lib.hid hh; have hbx := rd_box HRk.out hh.1 (i := 1) (v := .int .u64 o.n) (by rw [World.cell?_alloc_mark]; rfl); have HBN := Lib.hid (HBX.out.trans (hh.1.below HP.out (Nat.le_trans HBB.out.size (by simp)))); clear hh)
            (try go_wp2)
            first | go_ret | go_ret2 | go_ret3
            exact ⟨(by rw [HY.out]; first | done | rfl), by rw [HY.out]; exact HK1.out.2, HBN.out⟩
        · have hc0 : ((f : Int) != 0) = true := by simp; omega
          have HY := Lib.hid (same_no (b := b) (g := g) HS2.out (by rw [HONE.out]; simp [hf]))
          go_wp2_with (go_at_call 25; (with_reducible refine (rU64_ex p s a e _ v f b g HN.out HRX.out).mono ?_); rintro r w1 ⟨rfl, hh⟩; have HK1 := Lib.hid hh; have hbx := rd_box HRk.out hh.1 (i := 1) (v := .int .u64 o.n) (by rw [World.cell?_alloc_mark]; rfl); have HBN := Lib.hid (HBX.out.trans (hh.1.below HP.out (Nat.le_trans HBB.out.size (by simp)))); clear hh)
          (try go_wp2)
          first | go_ret | go_ret2 | go_ret3
          exact ⟨(by rw [HY.out]; first | done | rfl), by rw [HY.out]; exact HK1.out.2, HBN.out⟩
      · have hmod : (o.k : Int) % 7 = 4 := by omega
        obtain ⟨v, f, b, g, hN⟩ : ∃ v f b g, shortR s a e = ((v, f), (b, g)) := ⟨_, _, _, _, rfl⟩
        have HN := Lib.hid hN
        have HONE := Lib.hid (one_k4 (n := o.n) (o := o.s) hj hN)
        clear hj hN
        by_cases hf : f = 0
        · have hcf : ((f : Int) != 0) = false := by simp; omega
          by_cases hv : v = o.n
          · have hc0 : ((v : Int) != (o.n : Int)) = false := by simp; omega
            have HY := Lib.hid (same_yes (b := b) (g := g) HS2.out (by rw [HONE.out]; simp [hf, hv]))
            go_wp2_with (go_at_call 16; (with_reducible refine (rShort_ex p s a e _ v f b g HN.out HRX.out).mono ?_); rintro r w1 ⟨rfl, hh⟩; have HK1 := Lib.hid hh; have hbx := rd_box HRk.out hh.1 (i := 1) (v := .int .u64 o.n) (by rw [World.cell?_alloc_mark]; rfl); have HBN := Lib.hid (HBX.out.trans (hh.1.below HP.out (Nat.le_trans HBB.out.size (by simp)))); clear hh)
            (try go_wp2)
            go_roundw
            case rel => exact ⟨k + 1, b, g, by omega, by go_num, HK1.out.2, HBN.out, HY.out⟩
            case measure => simp [intOf]; omega
          · have hc0 : ((v : Int) != (o.n : Int)) = true := by simp; omega
            have HY := Lib.hid (same_no (b := b) (g := g) HS2.out (by rw [HONE.out]; simp [hf, hv]))
            go_wp2_with (go_at_call 16; (with_reducible refine (rShort_ex p s a e _ v f b g HN.out HRX.out).mono ?_); rintro r w1 ⟨rfl, hh⟩; have HK1 := Lib.hid hh; have hbx := rd_box HRk.out hh.1 (i := 1) (v := .int .u64 o.n) (by rw [World.cell?_alloc_mark]; rfl); have HBN := Lib.hid (HBX.out.trans (hh.1.below HP.out (Nat.le_trans HBB.out.size (by simp)))); clear hh)
            (try go_wp2)
            first | go_ret | go_ret2 | go_ret3
            exact ⟨(by rw [HY.out]; first | done | rfl), by rw [HY.out]; exact HK1.out.2, HBN.out⟩
        · have hc0 : ((f : Int) != 0) = true := by simp; omega
          have HY := Lib.hid (same_no (b := b) (g := g) HS2.out (by rw [HONE.out]; simp [hf]))
          go_wp2_with (go_at_call 16; (with_reducible refine (rShort_ex p s a e _ v f b g HN.out HRX.out).mono ?_); rintro r w1 ⟨rfl, hh⟩; have HK1 := Lib.hid hh; have hbx := rd_box HRk.out hh.1 (i := 1) (v := .int .u64 o.n) (by rw [World.cell?_alloc_mark]; rfl); have HBN := Lib.hid (HBX.out.trans (hh.1.below HP.out (Nat.le_trans HBB.out.size (by simp)))); clear hh)
          (try go_wp2)
          first | go_ret | go_ret2 | go_ret3
          exact ⟨(by rw [HY.out]; first | done | rfl), by rw [HY.out]; exact HK1.out.2, HBN.out⟩
      · have hmod : (o.k : Int) % 7 = 5 := by omega
        obtain ⟨v, f, b, g, hN⟩ : ∃ v f b g, rawR s a e o.s.size = ((v, f), (b, g)) := ⟨_, _, _, _, rfl⟩
        have HN := Lib.hid hN
        have HONE := Lib.hid (one_k5 (n := o.n) (o := o.s) hj hN)
        clear hj hN
        by_cases hf : f = 0
        · have hcf : ((f : Int) != 0) = false := by simp; omega
          by_cases hv : v = o.s
          · have hc0 : (!v.toList == o.s.toList) = false := by rw [hv]; simp
            have HY := Lib.hid (same_yes (b := b) (g := g) HS2.out (by rw [HONE.out]; simp [hf, hv]))
            clear hv
            go_wp2_with (go_at_call 23; (with_reducible refine (rRaw_ex p s a e _ o.s.size (by omega) (by omega) v f b g HN.out HRX.out).mono ?_); rintro r w1 ⟨rfl, hh⟩; have HK1 := Lib.hid hh; have hbx := rd_box HRk.out hh.1 (i := 2) (v := .string o.s) (by rw [World.cell?_alloc_mark]; rfl); have HBN := Lib.hid (HBX.out.trans (hh.1.below HP.out (Nat.le_trans HBB.out.size (by simp)))); clear hh)
            (try go_wp2)
            go_roundw
            case rel => exact ⟨k + 1, b, g, by omega, by go_num, HK1.out.2, HBN.out, HY.out⟩
            case measure => simp [intOf]; omega
          · have hc0 : (!v.toList == o.s.toList) = true := by simpa using fun e => hv (toList_inj e)
            have HY := Lib.hid (same_no (b := b) (g := g) HS2.out (by rw [HONE.out]; simp [hf, hv]))
            clear hv
            go_wp2_with (go_at_call 23; (with_reducible refine (rRaw_ex p s a e _ o.s.size (by omega) (by omega) v f b g HN.out HRX.out).mono ?_); rintro r w1 ⟨rfl, hh⟩; have HK1 := Lib.hid hh; have hbx := rd_box HRk.out hh.1 (i := 2) (v := .string o.s) (by rw [World.cell?_alloc_mark]; rfl); have HBN := Lib.hid (HBX.out.trans (hh.1.below HP.out (Nat.le_trans HBB.out.size (by simp)))); clear hh)
            (try go_wp2)
            first | go_ret | go_ret2 | go_ret3
            exact ⟨(by rw [HY.out]; first | done | rfl), by rw [HY.out]; exact HK1.out.2, HBN.out⟩
        · have hc0 : ((f : Int) != 0) = true := by simp; omega
          have HY := Lib.hid (same_no (b := b) (g := g) HS2.out (by rw [HONE.out]; simp [hf]))
          go_wp2_with (go_at_call 23; (with_reducible refine (rRaw_ex p s a e _ o.s.size (by omega) (by omega) v f b g HN.out HRX.out).mono ?_); rintro r w1 ⟨rfl, hh⟩; have HK1 := Lib.hid hh; have hbx := rd_box HRk.out hh.1 (i := 2) (v := .string o.s) (by rw [World.cell?_alloc_mark]; rfl); have HBN := Lib.hid (HBX.out.trans (hh.1.below HP.out (Nat.le_trans HBB.out.size (by simp)))); clear hh)
          (try go_wp2)
          first | go_ret | go_ret2 | go_ret3
          exact ⟨(by rw [HY.out]; first | done | rfl), by rw [HY.out]; exact HK1.out.2, HBN.out⟩
      · have hmod : (o.k : Int) % 7 = 6 := by omega
        obtain ⟨v, f, b, g, hN⟩ : ∃ v f b g, textR s a e o.s.size = ((v, f), (b, g)) := ⟨_, _, _, _, rfl⟩
        have HN := Lib.hid hN
        have HONE := Lib.hid (one_k6 (n := o.n) (o := o.s) hj hN)
        clear hj hN
        by_cases hf : f = 0
        · have hcf : ((f : Int) != 0) = false := by simp; omega
          by_cases hv : v = o.s
          · have hc0 : (!v.toList == o.s.toList) = false := by rw [hv]; simp
            have HY := Lib.hid (same_yes (b := b) (g := g) HS2.out (by rw [HONE.out]; simp [hf, hv]))
            clear hv
            go_wp2_with (go_at_call 24; (with_reducible refine (rText_ex p s a e _ o.s.size (by omega) (by omega) v f b g HN.out HRX.out).mono ?_); rintro r w1 ⟨rfl, hh⟩; have HK1 := Lib.hid hh; have hbx := rd_box HRk.out hh.1 (i := 2) (v := .string o.s) (by rw [World.cell?_alloc_mark]; rfl); have HBN := Lib.hid (HBX.out.trans (hh.1.below HP.out (Nat.le_trans HBB.out.size (by simp)))); clear hh)
            (try go_wp2)
            go_roundw
            case rel => exact ⟨k + 1, b, g, by omega, by go_num, HK1.out.2, HBN.out, HY.out⟩
            case measure => simp [intOf]; omega
          · have hc0 : (!v.toList == o.s.toList) = true := by simpa using fun e => hv (toList_inj e)
            have HY := Lib.hid (same_no (b := b) (g := g) HS2.out (by rw [HONE.out]; simp [hf, hv]))
            clear hv
            go_wp2_with (go_at_call 24; (with_reducible refine (rText_ex p s a e _ o.s.size (by omega) (by omega) v f b g HN.out HRX.out).mono ?_); rintro r w1 ⟨rfl, hh⟩; have HK1 := Lib.hid hh; have hbx := rd_box HRk.out hh.1 (i := 2) (v := .string o.s) (by rw [World.cell?_alloc_mark]; rfl); have HBN := Lib.hid (HBX.out.trans (hh.1.below HP.out (Nat.le_trans HBB.out.size (by simp)))); clear hh)
            (try go_wp2)
            first | go_ret | go_ret2 | go_ret3
            exact ⟨(by rw [HY.out]; first | done | rfl), by rw [HY.out]; exact HK1.out.2, HBN.out⟩
        · have hc0 : ((f : Int) != 0) = true := by simp; omega
          have HY := Lib.hid (same_no (b := b) (g := g) HS2.out (by rw [HONE.out]; simp [hf]))
          go_wp2_with (go_at_call 24; (with_reducible refine (rText_ex p s a e _ o.s.size (by omega) (by omega) v f b g HN.out HRX.out).mono ?_); rintro r w1 ⟨rfl, hh⟩; have HK1 := Lib.hid hh; have hbx := rd_box HRk.out hh.1 (i := 2) (v := .string o.s) (by rw [World.cell?_alloc_mark]; rfl); have HBN := Lib.hid (HBX.out.trans (hh.1.below HP.out (Nat.le_trans HBB.out.size (by simp)))); clear hh)
          (try go_wp2)
          first | go_ret | go_ret2 | go_ret3
          exact ⟨(by rw [HY.out]; first | done | rfl), by rw [HY.out]; exact HK1.out.2, HBN.out⟩
    · have HY := Lib.hid (HS.out.trans (by rw [List.drop_eq_nil_of_le (by omega)]; rfl : sameR s (l.drop k) a e = (true, a, e)))
      go_wp2
      first | go_ret | go_ret2 | go_ret3
      exact ⟨(by rw [HY.out]; first | done | rfl), by rw [HY.out]; exact HRk.out, HBB.out⟩
end Go.Proofs.Ytbbcgafkpobndaa
