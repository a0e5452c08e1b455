/- Walks of layer 7: lists of frames: the same?, laid one behind the other. -/
import Derived.Test.YtlnekfdamdfelaaFrW6
import Derived.Test.YtlnekfdamdfelaaFrMath5
set_option linter.unusedVariables false
set_option linter.unusedSimpArgs false
namespace Go.Proofs.Ytlnekfdamdfelaa
open Go.RowKit PackMath SumMath FrMath

/-- Frames that lie in the world. -/
def FrsAt (w : World) (a : Option Addr) (l : List (Int × ByteArray)) : Prop :=
  ∀ i (h : i < l.length), ∃ b off, a = some ⟨b, off, none⟩ ∧ w.cell? ⟨b, off + i * 2, none⟩ = some (.int .i64 l[i].1) ∧ w.cell? ⟨b, off + i * 2 + 1, none⟩ = some (.string l[i].2)
theorem FrsAt.below {w w' : World} {a : Option Addr} {l : List (Int × ByteArray)} (h : FrsAt w a l) (hb : Below w.heap.size w w') : FrsAt w' a l := fun i hi => by
  obtain ⟨b, off, h1, h2, h3⟩ := h i hi
  exact ⟨b, off, h1, bl_cell hb h2, bl_cell hb h3⟩
theorem FrsAt.take {w : World} {a : Option Addr} {l : List (Int × ByteArray)} (h : FrsAt w a l) (n : Nat) : FrsAt w a (l.take n) := fun i hi => by
  have hl : i < l.length := by rw [List.length_take] at hi; omega
  obtain ⟨b, off, h1, h2, h3⟩ := h i hl
  exact ⟨b, off, h1, by rw [List.getElem_take]; exact h2, by rw [List.getElem_take]; exact h3⟩
theorem frCells_get (l : List (Int × ByteArray)) : ∀ i (h : i < l.length), (frCells l)[i * 2]? = some (.int .i64 l[i].1) ∧ (frCells l)[i * 2 + 1]? = some (.string l[i].2) := by
  induction l with
  | nil => intro i h; simp at h
  | cons f r ih =>
    intro i h
    match i, h with
    | 0, _ => exact ⟨rfl, rfl⟩
    | i + 1, h =>
      have := ih i (by simpa using h)
      have e : frCells (f :: r) = .int .i64 f.1 :: .string f.2 :: frCells r := rfl
      rw [e, show (i + 1) * 2 = i * 2 + 1 + 1 from by omega]
      simp only [List.getElem?_cons_succ, List.getElem_cons_succ]
      exact this
/-- A row of the call's own, as it lies. -/
theorem frs_row {w : World} {B : Nat} {v : Value} {l : List (Int × ByteArray)} (h : w.ownsRow B 25 2 v l.length (frCells l)) : ∃ a c, v = .slice a l.length c ∧ FrsAt w a l ∧ l.length ≤ c ∧ c ≤ maxLen := by
  rcases h.2 with ⟨rfl, h0⟩ | ⟨g, cap, cur, rfl, hgb, hh, hnc, hcm, hcs, htake⟩
  · exact ⟨none, 0, by rw [h0], fun i hi => by omega, by omega, by simp [maxLen]⟩
  · refine ⟨_, _, rfl, fun i hi => ?_, hnc, hcm⟩
    obtain ⟨h1, h2⟩ := frCells_get l i hi
    refine ⟨g, 0, rfl, ?_, ?_⟩
    · rw [Nat.zero_add, h.cellAt _ (by omega)]; exact h1
    · rw [Nat.zero_add, h.cellAt _ (by omega)]; exact h2

def eqF (l m : List (Int × ByteArray)) : Bool := decide (l = m)
theorem eqF_self (l : List (Int × ByteArray)) : eqF l l = true := decide_eq_true rfl
section
variable (w : World)
/-- Two lists that are the same are told so. -/
theorem rSameF (l : List (Int × ByteArray)) (a b : Option Addr) (c d : Nat) (hl : l.length ≤ 1099511627776) (h : FrsAt w a l) (k : FrsAt w b l) :
    Calls Try.prog 18 #[.slice a l.length c, .slice b l.length d] w fun e w' => e = .returned (.bool true) ∧ ∃ n, w' = w.drewN n := by
  have HA := Lib.hid h; have HB := Lib.hid k
  clear h k
  go_enter Try.func18, Try.ntmps18
  go_wp2
  go_loopw [5] (fun i wr => ∃ k n : Nat, k ≤ l.length ∧ i = .int .i64 k ∧ wr = w.drewN n) (fun i _ => l.length - (intOf i).toNat)
  case atStart => exact ⟨0, 0, Nat.zero_le _, rfl, rfl⟩
  case round =>
    obtain ⟨k, n, hk, rfl, rfl⟩ := hrel
    by_cases hlt : k < l.length
    · obtain ⟨b1, o1, rfl, p1, p2⟩ := HA.out k hlt
      obtain ⟨b2, o2, rfl, q1, q2⟩ := HB.out k hlt
      generalize l[k] = f at p1 p2 q1 q2
      obtain ⟨x, y⟩ := f
      go_wp2
      go_quiet (fail)
      go_wp2
      go_roundw
      case rel => exact ⟨k + 1, _, by omega, by go_num, by first | rfl | (rw [World.drewN_drewN])⟩
      case measure => simp [intOf]; omega
    · go_wp2
      go_ret
      exact ⟨rfl, _, rfl⟩

def LaidSaid (l : List (Int × ByteArray)) (w : World) (r : Ending) (w' : World) : Prop :=
  ∃ (S : ByteArray) (v : Value), r = .returned (.tuple #[.string S, v]) ∧ S.data.toList = (laidR l).1 ∧ Col w w' v (laidR l).2
theorem laid_yes {l : List (Int × ByteArray)} {k : Nat} {x : Int} {b : ByteArray} {st : List UInt8 × List (Int × ByteArray)} (hk : k < l.length) (hx : l[k] = (x, b)) (hs : laidR (l.take k) = st) (h1 : frE x b = 0) (h2 : st.1.length < 1048576) : laidR (l.take (k + 1)) = (st.1 ++ (frS x b).data.toList, st.2 ++ [(x, b)]) := by
  rw [List.take_succ_eq_append_getElem hk, laid_snoc, hs, hx]
  unfold laidStep
  rw [if_pos ⟨h1, h2⟩]
theorem laid_no {l : List (Int × ByteArray)} {k : Nat} {x : Int} {b : ByteArray} {st : List UInt8 × List (Int × ByteArray)} (hk : k < l.length) (hx : l[k] = (x, b)) (hs : laidR (l.take k) = st) (h : ¬ (frE x b = 0 ∧ st.1.length < 1048576)) : laidR (l.take (k + 1)) = st := by
  rw [List.take_succ_eq_append_getElem hk, laid_snoc, hs, hx]
  unfold laidStep
  rw [if_neg h]

set_option maxHeartbeats 1000000 in
set_option maxRecDepth 100000 in
theorem fLaid (l : List (Int × ByteArray)) (a : Option Addr) (c : Nat) (hl : l.length ≤ maxLen) (h : FrsAt w a l) : Calls Try.prog 16 #[.slice a l.length c] w (LaidSaid l w) := by
  unfold maxLen at hl
  obtain ⟨i0, hi, hz0, hz1, hz2⟩ := info_parts infoFrame
  have HA := Lib.hid h
  clear h
  go_enter Try.func16, Try.ntmps16
  go_wp2
  go_loopw [4, 5, 12] (fun sv lv iv wr => ∃ (S : ByteArray) (v : Value) (k : Nat), k ≤ l.length ∧ sv = .string S ∧ lv = v ∧ iv = .int .i64 k ∧ S.data.toList = (laidR (l.take k)).1 ∧ Col w wr v (laidR (l.take k)).2) (fun _ _ iv _ => l.length - (intOf iv).toNat)
  case atStart => exact ⟨⟨#[]⟩, _, 0, Nat.zero_le _, rfl, rfl, rfl, rfl, Col.start w⟩
  case round =>
    obtain ⟨S, v, k, hk, rfl, rfl, rfl, hS, hcol⟩ := hrel
    obtain ⟨st, hst⟩ : ∃ st, laidR (l.take k) = st := ⟨_, rfl⟩
    have hcount := laid_count (l.take k)
    rw [hst] at hS hcol hcount
    have hSz : S.size = st.1.length := by rw [← size_list, hS]
    have HST := Lib.hid hst; have HS := Lib.hid hS; have HC := Lib.hid hcol
    clear hS hcol
    by_cases hlt : k < l.length
    · obtain ⟨b1, o1, rfl, p1, p2⟩ := HA.out.below HC.out.bel k hlt
      obtain ⟨x, b, hx⟩ : ∃ x b, l[k] = (x, b) := ⟨_, _, rfl⟩
      rw [hx] at p1 p2
      have HX := Lib.hid hx
      have HE := Lib.hid (fun W => rEncode W x b)
      have hwl := HC.out.bel.size
      by_cases hgo : frE x b = 0 ∧ st.1.length < 1048576
      · obtain ⟨hg1, hg2⟩ := hgo
        have HN := Lib.hid (laid_yes hlt hx hst hg1 hg2)
        obtain ⟨hgd, hsl⟩ := good_of hg1
        have hfs : (frS x b).size ≤ 1048585 := by
          have hb : b.size ≤ 1048576 := hgd.2.2
          rw [← size_list, hsl, encF_len]; omega
        have hcd : (((frE x b : Nat) : Int) == 0) = true := by simp; omega
        have hcd2 : decide ((S.size : Int) < 1048576) = true := by simp; omega
        have hq : ¬ (9223372036854775807 < S.size + (frS x b).size) := by omega
        clear hst hx hg1 hg2 hgd hsl hSz
        go_wp2_with (first
          | (go_at_call 14; (with_reducible refine (HE.out _).mono ?_); rintro r w2 ⟨rfl, hb⟩; have HC2 := Lib.hid ((HC.out.below (bl_alloc (Below.refl _ wr) (.cells #[.int .i64 x, .string b] 25))).below hb); have r0 := bl_cell hb (b := wr.heap.size) (o := 0) (v := .int .i64 x) (by rw [World.cell?_alloc_mark]; rfl); have r1 := bl_cell hb (b := wr.heap.size) (o := 1) (v := .string b) (by rw [World.cell?_alloc_mark]; rfl); have hsz := hb.size; have hsz2 : w.heap.size ≤ w2.heap.size := Nat.le_trans hwl (by simp at hsz; omega); clear hb hsz)
          | (refine wpList_append_lies _ rfl (.tmp 31) (.tmp 33) 39 rfl w.heap.size 25 i0 (.agg #[.int .i64 0, .string ⟨#[]⟩]) 2 24 Try.underlying39 hi hz0 hz1 hz2 rfl (by decide) _ st.2.length (frCells st.2) rfl (HC2.out.row.alloc _) ⟨w2.heap.size, 0, none⟩ 1 1 [.int .i64 x, .string b] rfl rfl (cells_two _ _ _ _) (one_frame x b) (by decide) (by unfold maxLen; omega) (by omega) (by simp; omega) (w2.heap.size + 1) (by simp) ?_; intro gg cp w5 hown hg hat hlt5; have HC5 := Lib.hid (HC2.out.push hown hg); clear hown hg hat hlt5 r0 r1))
        go_roundw
        case rel => exact ⟨_, _, k + 1, by omega, rfl, rfl, by go_num, by rw [HN.out, ← HS.out]; simp, by rw [HN.out]; exact HC5.out⟩
        case measure => simp [intOf]; omega
      · have HN := Lib.hid (laid_no hlt hx hst hgo)
        have hcase : (((frE x b : Nat) : Int) == 0) = false ∨ ((((frE x b : Nat) : Int) == 0) = true ∧ decide ((S.size : Int) < 1048576) = false) := by
          by_cases h0 : frE x b = 0
          · exact .inr ⟨by simp; omega, by have : ¬ st.1.length < 1048576 := fun h => hgo ⟨h0, h⟩; simp; omega⟩
          · exact .inl (by simp; omega)
        have HG := Lib.hid hcase
        clear hst hx hgo hcase hSz
        rcases HG.out with hcd | ⟨hcd, hcd2⟩
        all_goals
          go_wp2_with (go_at_call 14; (with_reducible refine (HE.out _).mono ?_); rintro r w2 ⟨rfl, hb⟩; have HC2 := Lib.hid ((HC.out.below (bl_alloc (Below.refl _ wr) (.cells #[.int .i64 x, .string b] 25))).below hb); clear hb)
          go_roundw
          case rel => exact ⟨_, _, k + 1, by omega, rfl, rfl, by go_num, by rw [HN.out]; exact HS.out, by rw [HN.out]; exact HC2.out⟩
          case measure => simp [intOf]; omega
    · have hkl : l.take k = l := List.take_of_length_le (by omega)
      have HR := Lib.hid (show laidR l = st by rw [← HST.out, hkl])
      clear hst hSz hkl
      go_wp2
      go_ret2
      exact ⟨S, _, rfl, by rw [HR.out]; exact HS.out, by rw [HR.out]; exact HC.out⟩
end
end Go.Proofs.Ytlnekfdamdfelaa
