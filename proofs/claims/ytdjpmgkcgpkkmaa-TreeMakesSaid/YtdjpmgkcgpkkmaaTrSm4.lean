/- Layer 8: a stable sort of any entries. -/
import Derived.Test.YtdjpmgkcgpkkmaaTrSm3
set_option linter.unusedVariables false
set_option linter.unusedSimpArgs false
namespace Go.Proofs.Ytdjpmgkcgpkkmaa
open Go.RowKit TrMath Go.Sort Go.Shelf

/-- Sorted from a to b, or to the end. -/
def Srd (a b : Nat) (d : Arr) : Prop := SortedIn ltE a (min b d.size) d
theorem Srd.same {a b p q : Nat} {d e : Arr} (h : Srd a b d) (k : Eff p q d e) (hpq : b ≤ p ∨ q ≤ a) : Srd a b e := by
  unfold Srd at *
  rw [k.size]
  exact sorted_same h fun i h1 h2 => k.out i (by omega)
theorem ins_eff (d : Arr) (a b : Nat) (hab : a ≤ b) (hb : b ≤ d.size) : Eff a b d (insertionSort ltE d a b) ∧ SortedIn ltE a b (insertionSort ltE d a b) := by
  obtain ⟨⟨h1, h2, h3⟩, h4⟩ := insertionSort_holds swoE d a b hab hb
  refine ⟨⟨h1, stb_ins d a b hb, h2, fun k k1 k2 => ?_⟩, h4⟩
  have hm : (insertionSort ltE d a b)[k]! ∈ ((insertionSort ltE d a b).extract a b).toList := by
    rw [Array.mem_toList_iff, Array.mem_extract_iff_getElem]
    refine ⟨k - a, by omega, ?_⟩
    rw [getElem!_pos _ _ (by omega)]
    congr 1; omega
  have := h3.mem_iff.1 hm
  rw [Array.mem_toList_iff, Array.mem_extract_iff_getElem] at this
  obtain ⟨q, q1, q2⟩ := this
  refine ⟨a + q, by omega, by omega, ?_⟩
  rw [getElem!_pos d (a + q) (by omega)]
  exact q2.symm
def InsSaid (w0 : World) (g a b : Nat) (d : Arr) (r : Ending) (w' : World) : Prop := r = .returned (.tuple #[]) ∧ ∃ e, Eff a b d e ∧ SortedIn ltE a b e ∧ St w0 g e w'
theorem insSt (w0 : World) (g cap z a b : Nat) (d : Arr) (hab : a ≤ b) (hb : b ≤ z) (hds : d.size = z) (hsz : z ≤ 1000000000) (w : World) (h : St w0 g d w) :
    Calls Try.prog 76 #[.slice (some ⟨g, 0, none⟩) z cap, .int .i64 a, .int .i64 b, .func (.func 38) #[] #[]] w (InsSaid w0 g a b d) := by
  subst hds
  refine (insSort g cap a b d w h.holds h.lt hab hb (by omega)).mono fun r w' ⟨hr, hw⟩ => ⟨hr, ?_⟩
  rw [ltOf_cfE] at hw
  obtain ⟨h1, h2⟩ := ins_eff d a b hab hb
  exact ⟨_, h1, h2, h.sw hw h1.size⟩
theorem srd_nil {a b : Nat} {d : Arr} (h : d.size ≤ a) : Srd a b d := fun i j hi hij hj => by omega
theorem srd_of {a b : Nat} {d : Arr} (h : SortedIn ltE a b d) : Srd a b d := fun i j hi hij hj => h i j hi hij (by omega)
theorem srd_end {a b : Nat} {d : Arr} (h : SortedIn ltE a d.size d) : Srd a b d := fun i j hi hij hj => h i j hi hij (by omega)
theorem Srd.to {a b : Nat} {d : Arr} (h : Srd a b d) (hb : b ≤ d.size) : SortedIn ltE a b d := fun i j hi hij hj => h i j hi hij (by omega)
theorem Srd.fin {a b : Nat} {d : Arr} (h : Srd a b d) (hb : d.size ≤ b) : SortedIn ltE a d.size d := fun i j hi hij hj => h i j hi hij (by omega)
/-- Blocks of s from A on are sorted. -/
def BlkFrom (s A : Nat) (d : Arr) : Prop := ∀ j, Srd (A + s * j) (A + s * (j + 1)) d
/-- Blocks of t up to A are sorted. -/
def BlkTo (t A : Nat) (d : Arr) : Prop := ∃ k, A = t * k ∧ ∀ j, j < k → Srd (t * j) (t * (j + 1)) d
theorem BlkFrom.two {s A : Nat} {d : Arr} (h : BlkFrom s A d) : Srd A (A + s) d ∧ Srd (A + s) (A + s + s) d ∧ BlkFrom s (A + s + s) d := by
  refine ⟨?_, ?_, fun j => ?_⟩
  · have := h 0
    rw [Nat.mul_zero, Nat.zero_add, Nat.mul_one, Nat.add_zero] at this
    exact this
  · have := h 1
    rw [Nat.mul_one, show s * (1 + 1) = s + s from by omega, ← Nat.add_assoc] at this
    exact this
  · have := h (j + 2)
    rw [show s * (j + 2) = s + s + s * j from by rw [Nat.mul_add]; omega, show s * (j + 2 + 1) = s + s + s * (j + 1) from by rw [Nat.mul_add, Nat.mul_add, Nat.mul_add]; omega] at this
    rw [show A + s + s + s * j = A + (s + s + s * j) from by omega, show A + s + s + s * (j + 1) = A + (s + s + s * (j + 1)) from by omega]
    exact this
theorem BlkFrom.same {s A p q : Nat} {d e : Arr} (h : BlkFrom s A d) (k : Eff p q d e) (hq : q ≤ A) : BlkFrom s A e := fun j => (h j).same k (.inr (by have := Nat.zero_le (s * j); omega))
theorem BlkTo.start (t : Nat) (d : Arr) : BlkTo t 0 d := ⟨0, (Nat.mul_zero t).symm, fun j h => absurd h (Nat.not_lt_zero _)⟩
theorem BlkTo.same {t A p q : Nat} {d e : Arr} (h : BlkTo t A d) (k : Eff p q d e) (hp : A ≤ p) : BlkTo t A e := by
  obtain ⟨n, hn, hb⟩ := h
  refine ⟨n, hn, fun j hj => (hb j hj).same k (.inl ?_)⟩
  have : t * (j + 1) ≤ t * n := Nat.mul_le_mul_left t hj
  omega
theorem BlkTo.next {t A : Nat} {d : Arr} (h : BlkTo t A d) (k : Srd A (A + t) d) : BlkTo t (A + t) d := by
  obtain ⟨n, hn, hb⟩ := h
  refine ⟨n + 1, by rw [Nat.mul_add, Nat.mul_one, hn], fun j hj => ?_⟩
  by_cases c : j < n
  · exact hb j c
  · obtain rfl : j = n := by omega
    rw [Nat.mul_add, Nat.mul_one, ← hn]
    exact k
theorem BlkTo.done {t A : Nat} {d : Arr} (h : BlkTo t A d) (k : Srd A (A + t) d) (hs : d.size < A + t) : BlkFrom t 0 d := fun j => by
  rw [Nat.zero_add, Nat.zero_add]
  obtain ⟨n, hn, hb⟩ := h
  by_cases c : j < n
  · exact hb j c
  · by_cases c2 : j = n
    · subst c2
      rw [Nat.mul_add, Nat.mul_one, ← hn]
      exact k
    · refine srd_nil ?_
      have : t * (n + 1) ≤ t * j := Nat.mul_le_mul_left t (by omega)
      rw [Nat.mul_add, Nat.mul_one, ← hn] at this
      omega
theorem BlkFrom.fin {s : Nat} {d : Arr} (h : BlkFrom s 0 d) (hs : d.size ≤ s) : SortedIn ltE 0 d.size d := by
  have := h 0
  rw [Nat.mul_zero, Nat.zero_add, Nat.mul_one] at this
  simp only [Nat.zero_add, Nat.add_zero] at this
  exact this.fin hs

set_option maxHeartbeats 8000000 in
set_option maxRecDepth 100000 in
theorem stableSt (w0 : World) (g cap z : Nat) (d : Arr) (hds : d.size = z) (hsz : z ≤ 1000000000) (w : World) (h : St w0 g d w) :
    Calls Try.prog 60 #[.slice (some ⟨g, 0, none⟩) z cap, .int .i64 z, .func (.func 38) #[] #[]] w (InsSaid w0 g 0 z d) := by
  have H0 := Lib.hid h; have HDS := Lib.hid hds
  have HIN := Lib.hid (fun a b e W h1 h2 h3 h4 => insSt w0 g cap z a b e h1 h2 h3 hsz W h4)
  have HSY := Lib.hid (fun a m b e W h1 h2 h3 h4 h5 h6 h7 => (symMerge w0 g cap z hsz (b - a + 1)).go a m b e W (by omega) h1 h2 h3 h4 h5 h6 h7)
  clear h hds
  go_enter Try.func60, Try.ntmps60
  go_wp2
  go_loopw [7, 8] (fun av bv wr => ∃ (A B : Nat) (e : Arr), av = .int .i64 A ∧ bv = .int .i64 B ∧ A + 20 = B ∧ A ≤ z ∧ Eff 0 z d e ∧ BlkTo 20 A e ∧ St w0 g e wr) (fun _ bv _ => z + 40 - (intOf bv).toNat)
  case atStart => exact ⟨0, 20, d, rfl, rfl, rfl, Nat.zero_le _, Eff.refl _ _ _, BlkTo.start _ _, H0.out⟩
  case round =>
    obtain ⟨A, B, e, rfl, rfl, hB, hA, heff, hblk, hst⟩ := hrel
    have HE := Lib.hid heff; have HK := Lib.hid hblk; have HT := Lib.hid hst
    have HES := Lib.hid (heff.size.trans HDS.out)
    clear heff hblk hst
    by_cases hlt : B ≤ z
    · go_wp2_with fail
      (with_reducible refine (HIN.out A B e wr (by omega) hlt HES.out HT.out).mono ?_)
      rintro r w1 ⟨rfl, f, hf, hs, ht⟩
      have HT1 := Lib.hid ht
      have HE1 := Lib.hid (HE.out.trans (hf.wide (Nat.zero_le _) hlt))
      have HK1 := Lib.hid (show BlkTo 20 B f by rw [← hB]; exact (HK.out.same hf (Nat.le_refl _)).next (srd_of (by rw [← hB] at hs; exact hs)))
      clear hf hs ht
      go_wp2
      go_roundw
      case rel => exact ⟨B, B + 20, f, rfl, by go_num, rfl, hlt, HE1.out, HK1.out, HT1.out⟩
      case measure => simp [intOf]; omega
    · go_wp2_with fail
      (with_reducible refine (HIN.out A z e wr hA (Nat.le_refl _) HES.out HT.out).mono ?_)
      rintro r w1 ⟨rfl, f, hf, hs, ht⟩
      have HT1 := Lib.hid ht
      have hfs := hf.size.trans HES.out
      have HE1 := Lib.hid (HE.out.trans (hf.wide (Nat.zero_le _) (Nat.le_refl _)))
      have HK1 := Lib.hid (show BlkFrom 20 0 f from (HK.out.same hf (Nat.le_refl _)).done (srd_end (by rw [hfs]; exact hs)) (by omega))
      clear hf hs ht hfs HE HK HT HES
      go_wp2_with fail
      go_loopw [6] (fun sv wq => ∃ (s : Nat) (e : Arr), sv = .int .i64 s ∧ 20 ≤ s ∧ s ≤ 2 * z + 20 ∧ Eff 0 z d e ∧ BlkFrom s 0 e ∧ St w0 g e wq) (fun sv _ => z - (intOf sv).toNat)
      case atStart => exact ⟨20, f, rfl, Nat.le_refl _, by omega, HE1.out, HK1.out, HT1.out⟩
      case round =>
        obtain ⟨s, e1, rfl, hs20, hsb, heff, hblk, hst⟩ := hrel
        have HE := Lib.hid heff; have HK := Lib.hid hblk; have HT := Lib.hid hst
        have HES := Lib.hid (heff.size.trans HDS.out)
        clear heff hblk hst
        by_cases hsz1 : s < z
        · obtain ⟨t, ht⟩ : ∃ t, s + s = t := ⟨_, rfl⟩
          have htz : 2 * (s : Int) = (t : Int) := by omega
          have htz2 : (s : Int) * 2 = (t : Int) := by omega
          obtain ⟨wo, hwo⟩ : ∃ wo : World, wo = wr := ⟨_, rfl⟩
          go_wp2_with fail
          go_loopw [7, 8] (fun av bv wp => ∃ (A B : Nat) (e : Arr), av = .int .i64 A ∧ bv = .int .i64 B ∧ A + t = B ∧ A ≤ z ∧ Eff 0 z d e ∧ BlkTo t A e ∧ BlkFrom s A e ∧ St w0 g e wp) (fun _ bv _ => z + t + t - (intOf bv).toNat)
          case atStart => exact ⟨0, t, e1, rfl, rfl, by omega, Nat.zero_le _, HE.out, BlkTo.start _ _, HK.out, HT.out⟩
          case round =>
            obtain ⟨A, B, e2, rfl, rfl, hB, hA, heff, hto, hfrom, hst⟩ := hrel
            have HE2 := Lib.hid heff; have HTO := Lib.hid hto; have HT2 := Lib.hid hst
            have HF2 := Lib.hid hfrom.two
            have HES2 := Lib.hid (heff.size.trans HDS.out)
            clear heff hto hfrom hst
            obtain ⟨M, hM⟩ : ∃ M, A + s = M := ⟨_, rfl⟩
            have hMz : (A : Int) + (s : Int) = (M : Int) := by omega
            rw [hM] at HF2
            by_cases hlt : B ≤ z
            · go_wp2_with fail
              (with_reducible refine (HSY.out A M B e2 wr (by omega) (by omega) hlt HES2.out (HF2.out.1.to (by rw [HES2.out]; omega)) (by have := HF2.out.2.1.to (by rw [HES2.out]; omega); rw [show M + s = B from by omega] at this; exact this) HT2.out).mono ?_)
              rintro r w3 ⟨rfl, f3, hf, hs, ht3⟩
              have HT3 := Lib.hid ht3
              have HE3 := Lib.hid (HE2.out.trans (hf.wide (Nat.zero_le _) hlt))
              have HTO3 := Lib.hid (show BlkTo t B f3 by rw [← hB]; exact (HTO.out.same hf (Nat.le_refl _)).next (srd_of (by rw [← hB] at hs; exact hs)))
              have HF3 := Lib.hid (show BlkFrom s B f3 by have := HF2.out.2.2.same hf (show B ≤ M + s by omega); rw [show M + s = B from by omega] at this; exact this)
              clear hf hs ht3
              go_wp2
              go_roundw
              case rel => exact ⟨B, B + t, f3, rfl, by go_num, rfl, hlt, HE3.out, HTO3.out, HF3.out, HT3.out⟩
              case measure => simp [intOf]; omega
            · by_cases hMlt : M < z
              · go_wp2_with fail
                (with_reducible refine (HSY.out A M z e2 wr (by omega) hMlt (Nat.le_refl _) HES2.out (HF2.out.1.to (by rw [HES2.out]; omega)) (by have := HF2.out.2.1.fin (by rw [HES2.out]; omega); rw [HES2.out] at this; exact this) HT2.out).mono ?_)
                rintro r w3 ⟨rfl, f3, hf, hs, ht3⟩
                have HT3 := Lib.hid ht3
                have hfs := hf.size.trans HES2.out
                have HE3 := Lib.hid (HE2.out.trans (hf.wide (Nat.zero_le _) (Nat.le_refl _)))
                have HTO3 := Lib.hid (show BlkFrom t 0 f3 from (HTO.out.same hf (Nat.le_refl _)).done (srd_end (by rw [hfs]; exact hs)) (by omega))
                clear hf hs ht3 hfs
                go_wp2
                go_roundw
                case rel => exact ⟨t, f3, by go_num, by omega, by omega, HE3.out, HTO3.out, HT3.out⟩
                case measure => simp [intOf]; omega
              · have HTO3 := Lib.hid (show BlkFrom t 0 e2 from HTO.out.done (srd_end (HF2.out.1.fin (by rw [HES2.out]; omega))) (by rw [HES2.out]; omega))
                go_wp2
                go_roundw
                case rel => exact ⟨t, e2, by go_num, by omega, by omega, HE2.out, HTO3.out, HT2.out⟩
                case measure => simp [intOf]; omega
        · have HF := Lib.hid (HK.out.fin (by rw [HES.out]; omega))
          go_wp2
          go_end0
          exact ⟨rfl, e1, HE.out, by have := HF.out; rw [HES.out] at this; exact this, HT.out⟩
theorem sorts_all (l : List (ByteArray × Int)) (hl : l.length ≤ 1000000000) : Sorts l := by
  by_cases hsm : l.length < 20
  · exact sorts_small l hsm
  · intro w B v hv
    obtain ⟨g, cap, cur, hvv, hgB, hh, _⟩ := own_form hv (by omega)
    subst hvv
    have hB := Own.block hv
    have hst : St w g l.toArray w := ⟨own_holds hB, hB.lt, gb_refl _ _⟩
    have hsz : l.toArray.size = l.length := by simp
    refine sort_of _ _ _ _ _ _ ((stableSt w g cap l.length l.toArray hsz hl w hst).mono fun r w' ⟨hr, e, he, hs, ht⟩ => ⟨hr, ?_⟩)
    intro a' c' hvv
    simp only [Value.slice.injEq] at hvv
    obtain ⟨rfl, _, rfl⟩ := hvv
    refine ⟨e.toList, by have := he.stb; simpa using this, srt_of (by rw [he.size, hsz]; exact hs), holds_at ht.holds ht.lt, ht.gb⟩
end Go.Proofs.Ytdjpmgkcgpkkmaa
