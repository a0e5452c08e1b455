/- Walks of layer 8: the document's Make. -/
import Derived.Test.YtplegohebfajlaaTrPt
import Derived.Deep.RegionLaw
set_option linter.unusedVariables false
set_option linter.unusedSimpArgs false
namespace Go.Proofs.Ytplegohebfajlaa
open Go.RowKit TrMath

/-- Blobs are words. -/
def Words (l : Ents) : Prop := ∀ e ∈ l, 0 ≤ e.2 ∧ e.2 < 4294967296
theorem Words.get {l : Ents} (h : Words l) {k : Nat} (hk : k < l.length) : 0 ≤ l[k].2 ∧ l[k].2 < 4294967296 := h _ (List.getElem_mem hk)
theorem Words.putR {l : Ents} (h : Words l) (p : ByteArray) {v : Int} (hv : 0 ≤ v ∧ v < 4294967296) : Words (putR l p v) := by
  intro e he
  unfold TrMath.putR at he
  split at he
  · exact h e he
  · rcases putL_mem p v l e he with ⟨rfl, _⟩ | h1
    · exact hv
    · exact h e h1
theorem Words.fold {t : Ents} (h : Words t) {l : Ents} (hl : Words l) : Words (foldP t l) := by
  unfold foldP
  induction l generalizing t with
  | nil => exact h
  | cons e r ih => exact ih (h.putR e.1 (hl e (by simp))) (fun x hx => hl x (by simp [hx]))
theorem putR_len (l : Ents) (p : ByteArray) (v : Int) : (putR l p v).length ≤ l.length + 1 := by
  unfold putR
  split
  · omega
  · exact putL_len _ _ _
theorem long_at {l : Ents} {k : Nat} (hk : k < l.length) (h : 255 < l[k].1.size) : longAt l = true := List.any_eq_true.2 ⟨l[k], List.getElem_mem hk, by simpa using h⟩
theorem long_all {l : Ents} (h : ∀ i (h : i < l.length), ¬ 255 < l[i].1.size) : longAt l = false := by
  unfold longAt
  rw [List.any_eq_false]
  intro x hx
  obtain ⟨i, hi, rfl⟩ := List.mem_iff_getElem.1 hx
  simpa using h i hi

set_option maxHeartbeats 2000000 in
set_option maxRecDepth 100000 in
theorem rMake (l : Ents) (hW : Words l) (a : Option Addr) (c : Nat) (hl : l.length ≤ 1073741824) (w : World) (h : EnAt w a l) :
    Calls Try.prog 25 #[.slice a l.length c] w (MakeSaid l w) := by
  have HA := Lib.hid h; have HWD := Lib.hid hW
  clear h hW
  go_enter Try.func25, Try.ntmps25
  go_wp2
  go_loopw [4, 5] (fun tv iv wr => ∃ (v : Value) (k : Nat), k ≤ l.length ∧ iv = .int .i64 k ∧ tv = v ∧ (∀ i (h : i < l.length), i < k → ¬ 255 < l[i].1.size) ∧ Own wr w.heap.size v (foldP [] (l.take k)) ∧ Below w.heap.size w wr) (fun _ iv _ => l.length - (intOf iv).toNat)
  case atStart => exact ⟨_, 0, Nat.zero_le _, rfl, rfl, fun i _ h => absurd h (Nat.not_lt_zero _), Own.nil _ _, Below.refl _ _⟩
  case round =>
    obtain ⟨v, k, hk, rfl, rfl, hno, hown, hbel⟩ := hrel
    have HNO := Lib.hid hno; have HB := Lib.hid hbel
    have hlen := foldP_len [] (l.take k)
    rw [List.length_take, List.length_nil] at hlen
    obtain ⟨ta, tc, hv, hte, hsl⟩ := Own.sl hown
    subst hv
    have HO := Lib.hid hown; have HTE := Lib.hid hte; have HSL := Lib.hid hsl
    have hwz := hbel.size
    clear hno hbel hown hte hsl
    by_cases hlt : k < l.length
    · obtain ⟨b1, o1, rfl, hb1, p1, p2⟩ := HA.out.below HB.out k hlt
      obtain ⟨hx0, hx1⟩ := HWD.out.get hlt
      have HSN := Lib.hid (show foldP [] (l.take (k + 1)) = putR (foldP [] (l.take k)) l[k].1 l[k].2 by rw [List.take_succ_eq_append_getElem hlt, foldP_snoc])
      have HLG := Lib.hid (fun h => long_at (l := l) hlt h)
      obtain ⟨p, x, hx⟩ : ∃ p x, l[k] = (p, x) := ⟨_, _, rfl⟩
      have HX := Lib.hid hx
      simp only [hx] at p1 p2 hx0 hx1
      clear hx
      by_cases hp : 255 < p.size
      · have HE := Lib.hid (HLG.out (by rw [HX.out]; exact hp))
        have hpz : decide (255 < (p.size : Int)) = true := by simp; omega
        go_wp2
        go_ret2
        exact ⟨.slice none 0 0, by rw [mkE, HE.out]; rfl, by rw [mkT, HE.out]; exact Own.nil _ _, HB.out⟩
      · have hpz : decide (255 < (p.size : Int)) = false := by simp; omega
        have HC := Lib.hid (fun W hW => rPut (foldP [] (l.take k)) p x hx0 hx1 ta tc HSL.out (by omega) W hW)
        have HNP := Lib.hid hp
        clear hp
        go_wp2
        go_region_held3 (fun w' => w'.cell? ⟨b1, o1 + k * 2, none⟩ = some (.string p) ∧ w'.cell? ⟨b1, o1 + k * 2 + 1, none⟩ = some (.int .u32 x))
          (first | exact HCY.out | exact ⟨p1, p2⟩)
          (first | (go_at_call 28; (with_reducible refine (HC.out _ (HTE.out.below (bl_drew (Below.refl _ wr)))).mono ?_); rintro r w5 ⟨v5, rfl, hown5, hb5⟩; have hb6 := (Below.drew (Below.refl _ wr)).trans hb5; have HBL := Lib.hid hb6; have HV5 := Lib.hid (hown5.mono (show w.heap.size ≤ wr.drew.heap.size from hwz)); have HCY := Lib.hid (show w5.cell? ⟨b1, o1 + k * 2, none⟩ = some (.string p) ∧ w5.cell? ⟨b1, o1 + k * 2 + 1, none⟩ = some (.int .u32 x) from ⟨bl_cell hb6 p1, bl_cell hb6 p2⟩); clear hown5 hb5 hb6))
        all_goals
          go_wp2
          go_roundw
          case rel => exact ⟨_, k + 1, by omega, by go_num, rfl, fun i h hi => by
            rcases Nat.lt_or_ge i k with h1 | h1
            · exact HNO.out i h h1
            · obtain rfl : i = k := by omega
              rw [HX.out]; exact HNP.out, by rw [HSN.out, HX.out]; exact HV5.out, bl_trans HB.out HBL.out⟩
          case measure => simp [intOf]; omega
    · have HE := Lib.hid (long_all fun i h => HNO.out i h (by omega))
      have htk : l.take k = l := List.take_of_length_le (by omega)
      have HMT := Lib.hid (show mkT l = foldP [] (l.take k) by rw [htk, mkT, HE.out]; rfl)
      clear htk
      go_wp2
      go_ret2
      exact ⟨_, by rw [mkE, HE.out]; rfl, by rw [HMT.out]; exact HO.out, HB.out⟩

/-- Paths cut, no more than so many. -/
def cutP (p : ByteArray) : ByteArray := p.extract 0 (min p.size 255)
def cutL (l : Ents) : Ents := (l.take 2000).map fun e => (cutP e.1, e.2)
def goodL (l : Ents) : Ents := foldP [] (cutL l)
theorem Own.pushN {w1 : World} {B n : Nat} {v1 : Value} {l : Ents} {p : ByteArray} {x : Int} (h : w1.ownsRow B 47 2 v1 (n + 1) (enCells l ++ [.string p, .int .u32 x])) (hn : l.length = n) : Own w1 B v1 (l ++ [(p, x)]) := by
  subst hn
  exact Own.push h
theorem own_n {w : World} {B n : Nat} {v : Value} {l : Ents} (h : Own w B v l) (hn : l.length = n) : w.ownsRow B 47 2 v n (enCells l) := by
  subst hn
  exact h
theorem cutP_size (p : ByteArray) : (cutP p).size ≤ 255 := by unfold cutP; rw [ByteArray.size_extract]; omega
theorem cutL_len (l : Ents) : (cutL l).length ≤ 2000 := by unfold cutL; simp; omega
theorem cutL_long (l : Ents) : longAt (cutL l) = false := by
  unfold longAt
  rw [List.any_eq_false]
  intro x hx
  unfold cutL at hx
  obtain ⟨y, _, rfl⟩ := List.mem_map.1 hx
  have := cutP_size y.1
  simp
  omega
theorem cutL_words {l : Ents} (h : Words l) : Words (cutL l) := fun e he => by
  unfold cutL at he
  obtain ⟨x, hx, rfl⟩ := List.mem_map.1 he
  exact h x (List.mem_of_mem_take hx)
theorem mk_good (l : Ents) : mkT (cutL l) = goodL l ∧ mkE (cutL l) = 0 := by
  unfold mkT mkE goodL
  rw [cutL_long]
  exact ⟨rfl, rfl⟩
theorem good_good (l : Ents) : TrMath.Good (goodL l) := foldP_good TrMath.Good.nil _
theorem good_words {l : Ents} (h : Words l) : Words (goodL l) := Words.fold (fun _ h => by simp at h) (cutL_words h)
theorem good_len (l : Ents) : (goodL l).length ≤ 2000 := by
  have h1 := foldP_len [] (cutL l)
  have h2 := cutL_len l
  unfold goodL
  simp at h1
  omega
theorem cut_at {l : Ents} {k : Nat} {p : ByteArray} {x : Int} (hk : k < (l.take 2000).length) (hx : (l.take 2000)[k] = (p, x)) : (cutL l).take (k + 1) = (cutL l).take k ++ [(cutP p, x)] := by
  have hk' : k < (cutL l).length := by unfold cutL; simpa using hk
  rw [List.take_succ_eq_append_getElem hk']
  congr 2
  have := List.getElem_map (fun e : ByteArray × Int => (cutP e.1, e.2)) (l := l.take 2000) (i := k) (h := by simpa using hk)
  rw [hx] at this
  exact this
end Go.Proofs.Ytplegohebfajlaa
