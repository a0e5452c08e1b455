/- Layer 8: two runs of entries merged in place, one of them a single entry. -/
import Derived.Test.YtdjpmgkcgpkkmaaTrSm1
import Derived.Test.YtdjpmgkcgpkkmaaTrRot2
import Derived.Test.YtdjpmgkcgpkkmaaTrQb
set_option linter.unusedVariables false
set_option linter.unusedSimpArgs false
namespace Go.Proofs.Ytdjpmgkcgpkkmaa
open Go.RowKit TrMath Go.Sort Go.Shelf

def SymSaid (w0 : World) (g a b : Nat) (d : Arr) (r : Ending) (w' : World) : Prop := r = .returned (.tuple #[]) ∧ ∃ e, Eff a b d e ∧ SortedIn ltE a b e ∧ St w0 g e w'
theorem ltE_cmp {p q : ByteArray} {x y : Int} {u v : ByteArray × Int} (hu : u = (p, x)) (hv : v = (q, y)) : ltE u v = decide (cmpP p q < 0) := by
  subst hu; subst hv
  show ltB p q = _
  have := cmpP_lt p q
  cases h : ltB p q
  · rw [h] at this; simp at this; simp; omega
  · rw [h] at this; simp at this; simp; omega
theorem tCompB (p : ByteArray) (v : Int) (q : ByteArray) (u : Int) {r : Int} (hr : cmpP p q = r) {W : World} (z : Beyond W) : Calls Try.prog 38 #[.agg #[.string p, .int .u32 v], .agg #[.string q, .int .u32 u]] z.x fun e w' => e = .returned (.int .i64 r) ∧ ∃ y : Beyond W, w' = y.x :=
  Go.Proofs.Ytdjpmgkcgpkkmaa.Calls.beyond z.b (by rw [← hr]; exact tComp p v q u z.x)

set_option maxHeartbeats 8000000 in
set_option maxRecDepth 100000 in
theorem symOne (w0 : World) (g cap a b z : Nat) (d : Arr) (hab : a + 1 < b) (hb : b ≤ z) (hds : d.size = z) (hsz : z ≤ 1000000000) (hB : SortedIn ltE (a + 1) b d) (w : World) (h : St w0 g d w) :
    Calls Try.prog 77 #[.slice (some ⟨g, 0, none⟩) z cap, .int .i64 a, .int .i64 (a + 1 : Nat), .int .i64 b, .func (.func 38) #[] #[]] w (SymSaid w0 g a b d) := by
  have H0 := Lib.hid h; have HDS := Lib.hid hds; have HSB := Lib.hid hB
  obtain ⟨m, hm⟩ : ∃ m, a + 1 = m := ⟨_, rfl⟩
  rw [hm]
  have hma : (m : Int) - (a : Int) = 1 := by omega
  obtain ⟨p, x, hp⟩ : ∃ p x, d[a]! = (p, x) := ⟨_, _, rfl⟩
  have HP := Lib.hid hp
  clear h hds hB hp
  go_enter Try.func77, Try.ntmps77
  go_wp2
  go_loopw [10, 11] (fun iv jv wr => ∃ i j : Nat, m ≤ i ∧ i ≤ j ∧ j ≤ b ∧ iv = .int .i64 i ∧ jv = .int .i64 j ∧ (i = a + 1 ∨ ltE d[i - 1]! d[a]! = true) ∧ (j = b ∨ ltE d[j]! d[a]! = false) ∧ Below w.heap.size w wr) (fun iv jv _ => (intOf jv).toNat - (intOf iv).toNat)
  case atStart => exact ⟨m, b, Nat.le_refl _, by omega, Nat.le_refl _, rfl, rfl, .inl hm.symm, .inl rfl, Below.refl _ _⟩
  case round =>
    obtain ⟨i, j, hmi, hij, hjb, rfl, rfl, hii, hjj, hbel⟩ := hrel
    have HII := Lib.hid hii; have HJJ := Lib.hid hjj; have HB := Lib.hid hbel
    have HS := Lib.hid (H0.out.below hbel)
    clear hii hjj hbel
    by_cases hlt : i < j
    · obtain ⟨k, hk⟩ : ∃ k, k = (i + j) / 2 := ⟨_, rfl⟩
      have hk1 : i ≤ k := by omega
      have hk2 : k < j := by omega
      have hkz : ((i : Int) + (j : Int)) / 2 = (k : Int) := by omega
      have hkl : (k : Int) < (z : Int) := by omega
      have hal : (a : Int) < (z : Int) := by omega
      obtain ⟨q, y, hq⟩ : ∃ p x, d[k]! = (p, x) := ⟨_, _, rfl⟩
      obtain ⟨p1, p2, _, _⟩ := HS.out.cells (by rw [HDS.out]; omega) HP.out
      obtain ⟨q1, q2, _, _⟩ := HS.out.cells (by rw [HDS.out]; omega) hq
      have C1 : ∀ z : Beyond wr, z.x.cell? ⟨g, a * 2, none⟩ = some (.string p) := fun z => bl_cell z.b p1
      have C2 : ∀ z : Beyond wr, z.x.cell? ⟨g, a * 2 + 1, none⟩ = some (.int .u32 x) := fun z => bl_cell z.b p2
      have C3 : ∀ z : Beyond wr, z.x.cell? ⟨g, k * 2, none⟩ = some (.string q) := fun z => bl_cell z.b q1
      have C4 : ∀ z : Beyond wr, z.x.cell? ⟨g, k * 2 + 1, none⟩ = some (.int .u32 y) := fun z => bl_cell z.b q2
      obtain ⟨r, hr⟩ : ∃ r, cmpP q p = r := ⟨_, rfl⟩
      have HC := Lib.hid (fun z : Beyond wr => tCompB q y p x hr z)
      have HL := Lib.hid (show ltE d[k]! d[a]! = decide (r < 0) by rw [ltE_cmp hq HP.out, hr])
      clear hq hr p1 p2 q1 q2 hk
      by_cases hr0 : r < 0
      · have hrd : decide (r < 0) = true := by simpa using hr0
        go_wp2_with fail
        refine wp_region_beyond (by kernel_rfl) (by kernel_rfl) ?_
        repeat (go_big_quiet_step ((go_at_call 38; (with_reducible exact HC.out _))))
        refine wpQuiet_nil ?_
        intro _ hw'
        obtain ⟨pq, hw''⟩ := hw'
        subst hw''
        have HBq := Lib.hid (bl_trans HB.out pq.b)
        generalize pq.x = Wc at *
        go_wp2
        go_roundw
        case rel => exact ⟨k + 1, j, by omega, by omega, hjb, by go_num, rfl, .inr (by rw [Nat.add_sub_cancel, HL.out]; exact hrd), HJJ.out, HBq.out⟩
        case measure => simp [intOf]; omega
      · have hrd : decide (r < 0) = false := by simpa using hr0
        go_wp2_with fail
        refine wp_region_beyond (by kernel_rfl) (by kernel_rfl) ?_
        repeat (go_big_quiet_step ((go_at_call 38; (with_reducible exact HC.out _))))
        refine wpQuiet_nil ?_
        intro _ hw'
        obtain ⟨pq, hw''⟩ := hw'
        subst hw''
        have HBq := Lib.hid (bl_trans HB.out pq.b)
        generalize pq.x = Wc at *
        go_wp2
        go_roundw
        case rel => exact ⟨i, k, hmi, by omega, by omega, rfl, rfl, HII.out, .inr (by rw [HL.out]; exact hrd), HBq.out⟩
        case measure => simp [intOf]; omega
    · obtain rfl : i = j := by omega
      obtain ⟨i1, hi1⟩ : ∃ k, i - 1 = k := ⟨_, rfl⟩
      have hi1z : (i : Int) - 1 = (i1 : Int) := by omega
      have hai : a ≤ i1 := by omega
      have hiz : i1 + 1 ≤ z := by omega
      obtain ⟨wo, hwo⟩ : ∃ wo : World, wo = wr := ⟨_, rfl⟩
      go_wp2_with fail
      go_loopw [13] (fun kv wq => ∃ (k : Nat) (e : Arr), a ≤ k ∧ k ≤ i1 ∧ kv = .int .i64 k ∧ IsRot a (a + 1) (k + 1) d e ∧ St w0 g e wq) (fun kv _ => i1 - (intOf kv).toNat)
      case atStart => exact ⟨a, d, Nat.le_refl _, hai, rfl, IsRot.none2 d (by omega), HS.out⟩
      case round =>
        obtain ⟨k, e, hk1, hk2, rfl, hrot, hst⟩ := hrel
        have HR := Lib.hid hrot; have HT := Lib.hid hst
        have hes : e.size = z := hrot.size.trans HDS.out
        clear hrot hst
        by_cases hkl : k < i1
        · obtain ⟨q, y, hq⟩ : ∃ p x, e[k]! = (p, x) := ⟨_, _, rfl⟩
          obtain ⟨q', y', hq'⟩ : ∃ p x, e[k + 1]! = (p, x) := ⟨_, _, rfl⟩
          obtain ⟨p1, p2, p3, p4⟩ := HT.out.cells (by omega) hq
          obtain ⟨q1, q2, q3, q4⟩ := HT.out.cells (by omega) hq'
          have HR2 := Lib.hid (HT.out.swap (by omega) (by omega) hq hq')
          have e1 : ((k : Int) + 1).toNat = k + 1 := by omega
          have HR3 := Lib.hid (rot_up HR.out hk1 (by rw [HDS.out]; omega))
          clear hq hq'
          go_wp2_with fail
          go_region
          go_wp2
          go_roundw
          case rel => exact ⟨k + 1, _, by omega, by omega, by go_num, HR3.out, HR2.out⟩
          case measure => simp [intOf]; omega
        · obtain rfl : k = i1 := by omega
          have HF := Lib.hid (done1 HSB.out (by omega) hjb (by rw [HDS.out]; exact hb) HII.out HJJ.out (by rw [show i = k + 1 from by omega]; exact HR.out))
          go_wp2
          go_end0
          exact ⟨rfl, e, HF.out.1, HF.out.2, HT.out⟩

set_option maxHeartbeats 8000000 in
set_option maxRecDepth 100000 in
theorem symLast (w0 : World) (g cap a m z : Nat) (d : Arr) (ham : a + 1 < m) (hb : m + 1 ≤ z) (hds : d.size = z) (hsz : z ≤ 1000000000) (hA : SortedIn ltE a m d) (w : World) (h : St w0 g d w) :
    Calls Try.prog 77 #[.slice (some ⟨g, 0, none⟩) z cap, .int .i64 a, .int .i64 m, .int .i64 (m + 1 : Nat), .func (.func 38) #[] #[]] w (SymSaid w0 g a (m + 1) d) := by
  have H0 := Lib.hid h; have HDS := Lib.hid hds; have HSA := Lib.hid hA
  obtain ⟨b, hm⟩ : ∃ b, m + 1 = b := ⟨_, rfl⟩
  rw [hm]
  obtain ⟨n0, hn0⟩ : ∃ n, m - a = n := ⟨_, rfl⟩
  have hma : (m : Int) - (a : Int) = (n0 : Int) := by omega
  have hn1 : ((n0 : Int) == 1) = false := by simp; omega
  have hn2 : ¬ (n0 : Int) = 1 := by omega
  have hbm : (b : Int) - (m : Int) = 1 := by omega
  obtain ⟨p, x, hp⟩ : ∃ p x, d[m]! = (p, x) := ⟨_, _, rfl⟩
  have HP := Lib.hid hp
  clear h hds hA hp
  go_enter Try.func77, Try.ntmps77
  go_wp2
  go_loopw [14, 15] (fun iv jv wr => ∃ i j : Nat, a ≤ i ∧ i ≤ j ∧ j ≤ m ∧ iv = .int .i64 i ∧ jv = .int .i64 j ∧ (i = a ∨ ltE d[m]! d[i - 1]! = false) ∧ (j = m ∨ ltE d[m]! d[j]! = true) ∧ Below w.heap.size w wr) (fun iv jv _ => (intOf jv).toNat - (intOf iv).toNat)
  case atStart => exact ⟨a, m, Nat.le_refl _, by omega, Nat.le_refl _, rfl, rfl, .inl rfl, .inl rfl, Below.refl _ _⟩
  case round =>
    obtain ⟨i, j, hmi, hij, hjb, rfl, rfl, hii, hjj, hbel⟩ := hrel
    have HII := Lib.hid hii; have HJJ := Lib.hid hjj; have HB := Lib.hid hbel
    have HS := Lib.hid (H0.out.below hbel)
    clear hii hjj hbel
    by_cases hlt : i < j
    · obtain ⟨k, hk⟩ : ∃ k, k = (i + j) / 2 := ⟨_, rfl⟩
      have hk1 : i ≤ k := by omega
      have hk2 : k < j := by omega
      have hkz : ((i : Int) + (j : Int)) / 2 = (k : Int) := by omega
      have hkl : (k : Int) < (z : Int) := by omega
      have hal : (m : Int) < (z : Int) := by omega
      obtain ⟨q, y, hq⟩ : ∃ p x, d[k]! = (p, x) := ⟨_, _, rfl⟩
      obtain ⟨p1, p2, _, _⟩ := HS.out.cells (by rw [HDS.out]; omega) HP.out
      obtain ⟨q1, q2, _, _⟩ := HS.out.cells (by rw [HDS.out]; omega) hq
      have C1 : ∀ z : Beyond wr, z.x.cell? ⟨g, m * 2, none⟩ = some (.string p) := fun z => bl_cell z.b p1
      have C2 : ∀ z : Beyond wr, z.x.cell? ⟨g, m * 2 + 1, none⟩ = some (.int .u32 x) := fun z => bl_cell z.b p2
      have C3 : ∀ z : Beyond wr, z.x.cell? ⟨g, k * 2, none⟩ = some (.string q) := fun z => bl_cell z.b q1
      have C4 : ∀ z : Beyond wr, z.x.cell? ⟨g, k * 2 + 1, none⟩ = some (.int .u32 y) := fun z => bl_cell z.b q2
      obtain ⟨r, hr⟩ : ∃ r, cmpP p q = r := ⟨_, rfl⟩
      have HC := Lib.hid (fun z : Beyond wr => tCompB p x q y hr z)
      have HL := Lib.hid (show ltE d[m]! d[k]! = decide (r < 0) by rw [ltE_cmp HP.out hq, hr])
      clear hq hr p1 p2 q1 q2 hk
      by_cases hr0 : r < 0
      · have hrd : decide (r < 0) = true := by simpa using hr0
        go_wp2_with fail
        refine wp_region_beyond (by kernel_rfl) (by kernel_rfl) ?_
        repeat (go_big_quiet_step ((go_at_call 38; (with_reducible exact HC.out _))))
        refine wpQuiet_nil ?_
        intro _ hw'
        obtain ⟨pq, hw''⟩ := hw'
        subst hw''
        have HBq := Lib.hid (bl_trans HB.out pq.b)
        generalize pq.x = Wc at *
        go_wp2
        go_roundw
        case rel => exact ⟨i, k, hmi, by omega, by omega, rfl, rfl, HII.out, .inr (by rw [HL.out]; exact hrd), HBq.out⟩
        case measure => simp [intOf]; omega
      · have hrd : decide (r < 0) = false := by simpa using hr0
        go_wp2_with fail
        refine wp_region_beyond (by kernel_rfl) (by kernel_rfl) ?_
        repeat (go_big_quiet_step ((go_at_call 38; (with_reducible exact HC.out _))))
        refine wpQuiet_nil ?_
        intro _ hw'
        obtain ⟨pq, hw''⟩ := hw'
        subst hw''
        have HBq := Lib.hid (bl_trans HB.out pq.b)
        generalize pq.x = Wc at *
        go_wp2
        go_roundw
        case rel => exact ⟨k + 1, j, by omega, by omega, hjb, by go_num, rfl, .inr (by rw [Nat.add_sub_cancel, HL.out]; exact hrd), HJJ.out, HBq.out⟩
        case measure => simp [intOf]; omega
    · obtain rfl : i = j := by omega
      obtain ⟨wo, hwo⟩ : ∃ wo : World, wo = wr := ⟨_, rfl⟩
      go_wp2_with fail
      go_loopw [17] (fun kv wq => ∃ (k : Nat) (e : Arr), i ≤ k ∧ k ≤ m ∧ kv = .int .i64 k ∧ IsRot k m (m + 1) d e ∧ St w0 g e wq) (fun kv _ => (intOf kv).toNat)
      case atStart => exact ⟨m, d, hjb, Nat.le_refl _, rfl, IsRot.none1 d (by omega), HS.out⟩
      case round =>
        obtain ⟨k, e, hk1, hk2, rfl, hrot, hst⟩ := hrel
        have HR := Lib.hid hrot; have HT := Lib.hid hst
        have hes : e.size = z := hrot.size.trans HDS.out
        clear hrot hst
        by_cases hkl : i < k
        · obtain ⟨k, rfl⟩ : ∃ k', k = k' + 1 := ⟨k - 1, by omega⟩
          obtain ⟨q, y, hq⟩ : ∃ p x, e[k + 1]! = (p, x) := ⟨_, _, rfl⟩
          obtain ⟨q', y', hq'⟩ : ∃ p x, e[k]! = (p, x) := ⟨_, _, rfl⟩
          obtain ⟨p1, p2, p3, p4⟩ := HT.out.cells (by omega) hq
          obtain ⟨q1, q2, q3, q4⟩ := HT.out.cells (by omega) hq'
          have HR2 := Lib.hid (HT.out.swap (by omega) (by omega) hq hq')
          have e1 : ((k : Int) + 1).toNat = k + 1 := by omega
          have e2 : (0 : Int) ≤ (k : Int) + 1 := by omega
          have HR3 := Lib.hid (rot_down HR.out (by omega) (by rw [HDS.out]; omega))
          clear hq hq'
          go_wp2_with fail
          go_region
          go_wp2
          go_roundw
          case rel => exact ⟨k, _, by omega, by omega, by go_num, HR3.out, HR2.out⟩
          case measure => simp [intOf]
        · obtain rfl : k = i := by omega
          have HF := Lib.hid (done2 HSA.out hmi hjb (by rw [HDS.out]; omega) HII.out HJJ.out HR.out)
          go_wp2
          go_end0
          exact ⟨rfl, e, by rw [← hm]; exact HF.out.1, by rw [← hm]; exact HF.out.2, HT.out⟩
end Go.Proofs.Ytdjpmgkcgpkkmaa
