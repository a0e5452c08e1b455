/- Walks of layer 8: the document's Make. -/
import Derived.Test.YtdjpmgkcgpkkmaaTrPt
import Derived.Deep.RegionLaw
set_option linter.unusedVariables false
set_option linter.unusedSimpArgs false
namespace Go.Proofs.Ytdjpmgkcgpkkmaa
open Go.RowKit TrMath

/-- Blobs are words. -/
def Words (l : Ents) : Prop := ∀ e ∈ l, 0 ≤ e.2 ∧ e.2 < 4294967296
theorem Words.get {l : Ents} (h : Words l) {k : Nat} (hk : k < l.length) : 0 ≤ l[k].2 ∧ l[k].2 < 4294967296 := h _ (List.getElem_mem hk)
theorem Words.putR {l : Ents} (h : Words l) (p : ByteArray) {v : Int} (hv : 0 ≤ v ∧ v < 4294967296) : Words (putR l p v) := by
  intro e he
  unfold TrMath.putR at he
  split at he
  · exact h e he
  · rcases putL_mem p v l e he with ⟨rfl, _⟩ | h1
    · exact hv
    · exact h e h1
theorem Words.fold {t : Ents} (h : Words t) {l : Ents} (hl : Words l) : Words (foldP t l) := by
  unfold foldP
  induction l generalizing t with
  | nil => exact h
  | cons e r ih => exact ih (h.putR e.1 (hl e (by simp))) (fun x hx => hl x (by simp [hx]))
theorem putR_len (l : Ents) (p : ByteArray) (v : Int) : (putR l p v).length ≤ l.length + 1 := by
  unfold putR
  split
  · omega
  · exact putL_len _ _ _
theorem long_at {l : Ents} {k : Nat} (hk : k < l.length) (h : 255 < l[k].1.size) : longAt l = true := List.any_eq_true.2 ⟨l[k], List.getElem_mem hk, by simpa using h⟩
theorem long_all {l : Ents} (h : ∀ i (h : i < l.length), ¬ 255 < l[i].1.size) : longAt l = false := by
  unfold longAt
  rw [List.any_eq_false]
  intro x hx
  obtain ⟨i, hi, rfl⟩ := List.mem_iff_getElem.1 hx
  simpa using h i hi

set_option maxHeartbeats 2000000 in
set_option maxRecDepth 100000 in
theorem rMake (l : Ents) (hW : Words l) (a : Option Addr) (c : Nat) (hl : l.length ≤ 1073741824) (w : World) (h : EnAt w a l) :
    Calls Try.prog 13 #[.slice a l.length c] w (MakeSaid l w) := by
  have HA := Lib.hid h; have HWD := Lib.hid hW
  clear h hW
  go_enter Try.func13, Try.ntmps13
  go_wp2
  go_loopw [4, 5] (fun tv iv wr => ∃ (v : Value) (k : Nat), k ≤ l.length ∧ iv = .int .i64 k ∧ tv = v ∧ (∀ i (h : i < l.length), i < k → ¬ 255 < l[i].1.size) ∧ Own wr w.heap.size v (foldP [] (l.take k)) ∧ Below w.heap.size w wr) (fun _ iv _ => l.length - (intOf iv).toNat)
  case atStart => exact ⟨_, 0, Nat.zero_le _, rfl, rfl, fun i _ h => absurd h (Nat.not_lt_zero _), Own.nil _ _, Below.refl _ _⟩
  case round =>
    obtain ⟨v, k, hk, rfl, rfl, hno, hown, hbel⟩ := hrel
    have HNO := Lib.hid hno; have HB := Lib.hid hbel
    have hlen := foldP_len [] (l.take k)
    rw [List.length_take, List.length_nil] at hlen
    obtain ⟨ta, tc, hv, hte, hsl⟩ := Own.sl hown
    subst hv
    have HO := Lib.hid hown; have HTE := Lib.hid hte; have HSL := Lib.hid hsl
    have hwz := hbel.size
    clear hno hbel hown hte hsl
    by_cases hlt : k < l.length
    · obtain ⟨b1, o1, rfl, hb1, p1, p2⟩ := HA.out.below HB.out k hlt
      obtain ⟨hx0, hx1⟩ := HWD.out.get hlt
      have HSN := Lib.hid (show foldP [] (l.take (k + 1)) = putR (foldP [] (l.take k)) l[k].1 l[k].2 by rw [List.take_succ_eq_append_getElem hlt, foldP_snoc])
      have HLG := Lib.hid (fun h => long_at (l := l) hlt h)
      obtain ⟨p, x, hx⟩ : ∃ p x, l[k] = (p, x) := ⟨_, _, rfl⟩
      have HX := Lib.hid hx
      simp only [hx] at p1 p2 hx0 hx1
      clear hx
      by_cases hp : 255 < p.size
      · have HE := Lib.hid (HLG.out (by rw [HX.out]; exact hp))
        have hpz : decide (255 < (p.size : Int)) = true := by simp; omega
        go_wp2
        go_ret2
        exact ⟨.slice none 0 0, by rw [mkE, HE.out]; rfl, by rw [mkT, HE.out]; exact Own.nil _ _, HB.out⟩
      · have hpz : decide (255 < (p.size : Int)) = false := by simp; omega
        have HC := Lib.hid (fun W hW => rPut (foldP [] (l.take k)) p x hx0 hx1 ta tc HSL.out (by omega) W hW)
        have HNP := Lib.hid hp
        clear hp
        go_wp2
        go_region_held3 (fun w' => w'.cell? ⟨b1, o1 + k * 2, none⟩ = some (.string p) ∧ w'.cell? ⟨b1, o1 + k * 2 + 1, none⟩ = some (.int .u32 x))
          (first | exact HCY.out | exact ⟨p1, p2⟩)
          (first | (go_at_call 23; (with_reducible refine (HC.out _ (HTE.out.below (bl_drew (Below.refl _ wr)))).mono ?_); rintro r w5 ⟨v5, rfl, hown5, hb5⟩; have hb6 := (Below.drew (Below.refl _ wr)).trans hb5; have HBL := Lib.hid hb6; have HV5 := Lib.hid (hown5.mono (show w.heap.size ≤ wr.drew.heap.size from hwz)); have HCY := Lib.hid (show w5.cell? ⟨b1, o1 + k * 2, none⟩ = some (.string p) ∧ w5.cell? ⟨b1, o1 + k * 2 + 1, none⟩ = some (.int .u32 x) from ⟨bl_cell hb6 p1, bl_cell hb6 p2⟩); clear hown5 hb5 hb6))
        all_goals
          go_wp2
          go_roundw
          case rel => exact ⟨_, k + 1, by omega, by go_num, rfl, fun i h hi => by
            rcases Nat.lt_or_ge i k with h1 | h1
            · exact HNO.out i h h1
            · obtain rfl : i = k := by omega
              rw [HX.out]; exact HNP.out, by rw [HSN.out, HX.out]; exact HV5.out, bl_trans HB.out HBL.out⟩
          case measure => simp [intOf]; omega
    · have HE := Lib.hid (long_all fun i h => HNO.out i h (by omega))
      have htk : l.take k = l := List.take_of_length_le (by omega)
      have HMT := Lib.hid (show mkT l = foldP [] (l.take k) by rw [htk, mkT, HE.out]; rfl)
      clear htk
      go_wp2
      go_ret2
      exact ⟨_, by rw [mkE, HE.out]; rfl, by rw [HMT.out]; exact HO.out, HB.out⟩

/-- Paths cut, no more than so many. -/
def cutP (p : ByteArray) : ByteArray := p.extract 0 (min p.size 255)
def cutL (l : Ents) : Ents := (l.take 2000).map fun e => (cutP e.1, e.2)
def goodL (l : Ents) : Ents := foldP [] (cutL l)
theorem Own.pushN {w1 : World} {B n : Nat} {v1 : Value} {l : Ents} {p : ByteArray} {x : Int} (h : w1.ownsRow B 39 2 v1 (n + 1) (enCells l ++ [.string p, .int .u32 x])) (hn : l.length = n) : Own w1 B v1 (l ++ [(p, x)]) := by
  subst hn
  exact Own.push h
theorem own_n {w : World} {B n : Nat} {v : Value} {l : Ents} (h : Own w B v l) (hn : l.length = n) : w.ownsRow B 39 2 v n (enCells l) := by
  subst hn
  exact h
theorem cutP_size (p : ByteArray) : (cutP p).size ≤ 255 := by unfold cutP; rw [ByteArray.size_extract]; omega
theorem cutL_len (l : Ents) : (cutL l).length ≤ 2000 := by unfold cutL; simp; omega
theorem cutL_long (l : Ents) : longAt (cutL l) = false := by
  unfold longAt
  rw [List.any_eq_false]
  intro x hx
  unfold cutL at hx
  obtain ⟨y, _, rfl⟩ := List.mem_map.1 hx
  have := cutP_size y.1
  simp
  omega
theorem cutL_words {l : Ents} (h : Words l) : Words (cutL l) := fun e he => by
  unfold cutL at he
  obtain ⟨x, hx, rfl⟩ := List.mem_map.1 he
  exact h x (List.mem_of_mem_take hx)
theorem mk_good (l : Ents) : mkT (cutL l) = goodL l ∧ mkE (cutL l) = 0 := by
  unfold mkT mkE goodL
  rw [cutL_long]
  exact ⟨rfl, rfl⟩
theorem good_good (l : Ents) : TrMath.Good (goodL l) := foldP_good TrMath.Good.nil _
theorem good_words {l : Ents} (h : Words l) : Words (goodL l) := Words.fold (fun _ h => by simp at h) (cutL_words h)
theorem good_len (l : Ents) : (goodL l).length ≤ 2000 := by
  have h1 := foldP_len [] (cutL l)
  have h2 := cutL_len l
  unfold goodL
  simp at h1
  omega
theorem cut_at {l : Ents} {k : Nat} {p : ByteArray} {x : Int} (hk : k < (l.take 2000).length) (hx : (l.take 2000)[k] = (p, x)) : (cutL l).take (k + 1) = (cutL l).take k ++ [(cutP p, x)] := by
  have hk' : k < (cutL l).length := by unfold cutL; simpa using hk
  rw [List.take_succ_eq_append_getElem hk']
  congr 2
  have := List.getElem_map (fun e : ByteArray × Int => (cutP e.1, e.2)) (l := l.take 2000) (i := k) (h := by simpa using hk)
  rw [hx] at this
  exact this
set_option maxHeartbeats 2000000 in
set_option maxRecDepth 100000 in
theorem lGood (l : Ents) (hW : Words l) (a : Option Addr) (c : Nat) (hcl : l.length ≤ c) (hcm : c ≤ maxLen) (hl : l.length ≤ maxLen) (w : World) (h : EnAt w a l) :
    Calls Try.prog 21 #[.slice a l.length c] w fun e w' => ∃ v, e = .returned v ∧ Own w' w.heap.size v (goodL l) ∧ Below w.heap.size w w' := by
  unfold maxLen at hl
  obtain ⟨i0, hi, hz0, hz1, hz2⟩ := info_parts infoEntry
  have HM := Lib.hid (fun W a c hw => rMake (cutL l) (cutL_words hW) a c (by have := cutL_len l; omega) W hw)
  obtain ⟨n, hn⟩ : ∃ n, n = min l.length 2000 := ⟨_, rfl⟩
  have hn1 : (l.take 2000).length = n := by rw [List.length_take]; omega
  have hnl : n ≤ l.length := by omega
  have hn2 : n ≤ 2000 := by omega
  have hnc : n ≤ c := by omega
  unfold maxLen at hcm
  have hmin : min (l.length : Int) 2000 = (n : Int) := by omega
  have HA := Lib.hid h; have HN := Lib.hid hn1
  clear h hn hn1 hW
  go_enter Try.func21, Try.ntmps21
  go_wp2
  go_loopw [3, 14] (fun ov iv wr => ∃ (v : Value) (k : Nat), k ≤ n ∧ iv = .int .i64 k ∧ ov = v ∧ Own wr w.heap.size v ((cutL l).take k) ∧ Below w.heap.size w wr) (fun _ iv _ => n - (intOf iv).toNat)
  case atStart => exact ⟨_, 0, Nat.zero_le _, rfl, rfl, Own.nil _ _, Below.refl _ _⟩
  case round =>
    obtain ⟨v, k, hk, rfl, rfl, hown, hbel⟩ := hrel
    have HO := Lib.hid hown; have HB := Lib.hid hbel
    have hwz := hbel.size
    have htl : ((cutL l).take k).length ≤ k := by rw [List.length_take]; omega
    have hcl : (cutL l).length = n := by
      unfold cutL
      rw [List.length_map, HN.out]
    have HCL := Lib.hid hcl
    have HTL := Lib.hid (show ((cutL l).take k).length = k by rw [List.length_take, hcl]; exact Nat.min_eq_left hk)
    clear hcl
    clear hown hbel
    by_cases hlt : k < n
    · have hlt2 : k < (l.take 2000).length := by rw [HN.out]; exact hlt
      have hlt3 : k < l.length := by omega
      obtain ⟨b1, o1, rfl, hb1, p1, p2⟩ := HA.out.below HB.out k hlt3
      obtain ⟨p, x, hx⟩ : ∃ p x, l[k] = (p, x) := ⟨_, _, rfl⟩
      have HC := Lib.hid (show (cutL l).take (k + 1) = (cutL l).take k ++ [(cutP p, x)] from cut_at hlt2 (by rw [List.getElem_take]; exact hx))
      rw [hx] at p1 p2
      clear hx
      obtain ⟨q, hq⟩ : ∃ q, q = cutP p := ⟨_, rfl⟩
      obtain ⟨m, hm⟩ : ∃ m, m = min p.size 255 := ⟨_, rfl⟩
      have hmz : min (p.size : Int) 255 = (m : Int) := by omega
      have hmp : m ≤ p.size := by omega
      have HQ := Lib.hid (show p.extract 0 m = q by rw [hq, hm]; rfl)
      have HQ2 := Lib.hid hq
      clear hq hm
      go_wp2
      have HX0 : (wr.alloc (.cells #[.string p, .int .u32 x] 39)).cell? ⟨wr.heap.size, 0, none⟩ = some (.string p) := by rw [World.cell?_alloc_mark]; rfl
      have HX1 : (wr.alloc (.cells #[.string p, .int .u32 x] 39)).cell? ⟨wr.heap.size, 1, none⟩ = some (.int .u32 x) := by rw [World.cell?_alloc_mark]; rfl
      have HOx := Lib.hid (HO.out.alloc (.cells #[.string p, .int .u32 x] 39))
      have HOk := Lib.hid (own_n HOx.out HTL.out)
      have HBx := Lib.hid (bl_alloc HB.out (.cells #[.string p, .int .u32 x] 39))
      have hxs : wr.heap.size < (wr.alloc (.cells #[.string p, .int .u32 x] 39)).heap.size := by simp
      generalize wr.alloc (.cells #[.string p, .int .u32 x] 39) = x4 at *
      go_region_law (refine step_append_lies _ rfl (.tmp 18) (.tmp 29) 22 rfl w.heap.size 39 i0 (.agg #[.string ⟨#[]⟩, .int .u32 0]) 2 24 Try.underlying22 hi hz0 hz1 hz2 rfl (by decide) _ k _ rfl (HOk.out.drew.alloc _) ⟨x4.heap.size, 0, none⟩ 1 1 [.string (p.extract 0 m), .int .u32 x] rfl rfl (cells_pair _ _ _ _) (one_pair _ _) (by decide) (by unfold maxLen; omega) (by omega) (by simp; omega) _ rfl ?_; intro gg cp w5 hown hg hat hlt5; have HO5 := Lib.hid hown; have HB5 := Lib.hid (gb_to_below (bl_alloc (bl_drew HBx.out) _) hg (by simp; omega) (fun i hi => (HOx.out.lt i hi).1)); clear hown hg hat hlt5)
      all_goals
        go_wp2
        go_roundw
        case rel => exact ⟨_, k + 1, by omega, by go_num, rfl, by rw [HC.out, ← HQ2.out, ← HQ.out]; exact Own.pushN HO5.out HTL.out, HB5.out⟩
        case measure => simp [intOf]; omega
    · obtain rfl : k = n := by omega
      have hT : (cutL l).take k = cutL l := List.take_of_length_le (by have := HCL.out; omega)
      obtain ⟨ta, tc, hv, hte, hsl⟩ := Own.sl HO.out
      rw [HTL.out] at hv
      subst hv
      have HTE := Lib.hid (show EnAt wr ta (cutL l) by rw [← hT]; exact hte)
      have HMM := Lib.hid (show Calls Try.prog 13 #[.slice ta k tc] wr (MakeSaid (cutL l) wr) by have := HM.out wr ta tc HTE.out; rw [HCL.out] at this; exact this)
      clear hte hsl hT
      go_wp2_with (go_at_call 13; (with_reducible refine (HMM.out).mono ?_); rintro e w2 ⟨v2, rfl, hown2, hb2⟩; have HO2 := Lib.hid hown2; have HB2 := Lib.hid hb2; clear hown2 hb2)
      go_ret
      exact ⟨_, rfl, by rw [← (mk_good l).1]; exact HO2.out.mono hwz, bl_trans HB.out HB2.out⟩
end Go.Proofs.Ytdjpmgkcgpkkmaa
