/- Walks of layer 7: scanning. -/
import Derived.Test.YtlnekfdamdfelaaFrW4
import Derived.Test.YtlnekfdamdfelaaFrMath4
set_option linter.unusedVariables false
set_option linter.unusedSimpArgs false
namespace Go.Proofs.Ytlnekfdamdfelaa
open Go.RowKit PackMath SumMath FrMath

theorem infoFrame : (Try.prog.info? 25).map (fun i => (i.zero, i.size, i.bytes)) = some (some (.agg #[.int .i64 0, .string ⟨#[]⟩]), 2, 24) := by kernel_rfl
/-- The cells of some frames. -/
def frCells (l : List (Int × ByteArray)) : List Value := l.flatMap fun f => [.int .i64 f.1, .string f.2]
theorem frCells_len (l : List (Int × ByteArray)) : (frCells l).length = l.length * 2 := by
  induction l with
  | nil => rfl
  | cons x r ih => rw [frCells, List.flatMap_cons, List.length_append]; show 2 + (frCells r).length = (r.length + 1) * 2; omega
theorem frCells_snoc (l : List (Int × ByteArray)) (k : Int) (b : ByteArray) : frCells (l ++ [(k, b)]) = frCells l ++ [.int .i64 k, .string b] := by simp [frCells]
theorem cells_two (w : World) (u v : Value) (t : TypeId) : ∀ (j : Nat) x, [u, v][j]? = some x → (w.alloc (.cells #[u, v] t)).cell? ((⟨w.heap.size, 0, none⟩ : Addr).add j) = some x := by
  intro j x hj
  match j, hj with
  | 0, hj =>
    simp at hj
    subst hj
    show (w.alloc (.cells #[u, v] t)).cell? ⟨w.heap.size, 0, none⟩ = _
    rw [World.cell?_alloc_new]
    rfl
  | 1, hj =>
    simp at hj
    subst hj
    rw [add_form, World.cell?_alloc_mark]
    rfl
theorem own_kept {B E z n : Nat} {wa wb : World} {u : Value} {xs : List Value} (h : wa.ownsRow B E z u n xs) (hk : ∀ k, B ≤ k → k < wa.heap.size → wb.heap[k]? = wa.heap[k]?) : wb.ownsRow B E z u n xs := by
  refine ⟨h.1, ?_⟩
  rcases h.2 with h2 | ⟨g, cap, cur, hvv, hgb, hh, r⟩
  · exact .inl h2
  · exact .inr ⟨g, cap, cur, hvv, hgb, by rw [hk g hgb (Array.getElem?_eq_some_iff.1 hh).1]; exact hh, r⟩

/-- While frames are collected: the row, everything below as it was. -/
structure Col (w wr : World) (v : Value) (l : List (Int × ByteArray)) : Prop where
  row : wr.ownsRow w.heap.size 25 2 v l.length (frCells l)
  bel : Below w.heap.size w wr
theorem Col.start (w : World) : Col w w (.slice none 0 0) [] := ⟨World.ownsRow_nil _ _ _ _, Below.refl _ _⟩
theorem Col.below {w wr w1 : World} {v : Value} {l : List (Int × ByteArray)} (h : Col w wr v l) (hb : Below wr.heap.size wr w1) : Col w w1 v l :=
  ⟨own_kept h.row (fun k _ hl => hb.block k hl), bl_trans h.bel hb⟩
theorem Col.set {w wr : World} {v : Value} {l : List (Int × ByteArray)} {p o : Nat} {u : Value} (h : Col w wr v l) (hp : w.heap.size ≤ p) (hv : ∀ g, v.ownBlock = some g → g ≠ p) : Col w (wr.setCell ⟨p, o, none⟩ u) v l := by
  refine ⟨⟨h.row.1, ?_⟩, h.bel.setCell hp _⟩
  rcases h.row.2 with h2 | ⟨g, cap, cur, hvv, hgb, hh, r⟩
  · exact .inl h2
  · refine .inr ⟨g, cap, cur, hvv, hgb, ?_, r⟩
    rw [heap_setCell_other _ _ _ _ (hv g (by rw [hvv]; rfl))]
    exact hh
theorem Col.push {w wr w1 : World} {v v1 : Value} {l : List (Int × ByteArray)} {k : Int} {b : ByteArray} {o : Obj} (h : Col w wr v l) (hown : w1.ownsRow w.heap.size 25 2 v1 (l.length + 1) (frCells l ++ [.int .i64 k, .string b])) (hg : (wr.alloc o).grownBy w1 v.ownBlock) : Col w w1 v1 (l ++ [(k, b)]) := by
  refine ⟨?_, ?_⟩
  · rw [List.length_append, frCells_snoc]; exact hown
  · have hb := h.bel
    have hs := hb.size
    exact hb.trans ⟨hg.os, hg.tape, hg.output, by have := hg.size; simp at this; omega, fun i hi => by
      rw [hg.block i (by simp; omega) (fun e => by have := (h.row.lt i e.symm).1; omega), Below.heap_alloc wr o i (by omega)]⟩

theorem one_frame (k : Int) (b : ByteArray) : ∀ u ∈ [Value.int .i64 k, .string b], u.oneCell' = true := by
  intro u hu
  simp at hu
  rcases hu with rfl | rfl <;> rfl
theorem cells_box {w2 : World} {p q : Addr} {x y : Value} (u v : Value) (t : TypeId) : ∀ (j : Nat) z, [u, v][j]? = some z → (((w2.setCell p x).setCell q y).alloc (.cells #[u, v] t)).cell? ((⟨w2.heap.size, 0, none⟩ : Addr).add j) = some z := by
  have := cells_two ((w2.setCell p x).setCell q y) u v t
  simpa [World.setCell] using this
def ScanSaid (s : ByteArray) (w : World) (r : Ending) (w' : World) : Prop :=
  ∃ v : Value, r = .returned (.tuple #[v, .int .i64 ((scanR s).2.1 : Nat), .int .i64 ((scanR s).2.2 : Nat)]) ∧ Col w w' v (scanR s).1
theorem scan_mk {s : ByteArray} {w w' : World} {v : Value} {l : List (Int × ByteArray)} {a e : Nat} (h : scanR s = (l, (a, e))) (hc : Col w w' v l) : ScanSaid s w (.returned (.tuple #[v, .int .i64 a, .int .i64 e])) w' := by
  unfold ScanSaid; rw [h]; exact ⟨v, rfl, hc⟩

set_option maxHeartbeats 1000000 in
set_option maxRecDepth 100000 in
theorem fScan (s : ByteArray) (hs : s.size ≤ 1099511627776) (w : World) : Calls Try.prog 17 #[.string s] w (ScanSaid s w) := by
  obtain ⟨i0, hi, hz0, hz1, hz2⟩ := info_parts infoFrame
  go_enter Try.func17, Try.ntmps17
  go_wp2
  go_step3
  go_wp2
  go_step3
  go_wp2
  go_loopw [5, 6, 7] (fun lv av ev wr => ∃ (v : Value) (a fuel : Nat) (pre : List (Int × ByteArray)), a ≤ s.size ∧ s.size ≤ a + fuel ∧ pre.length ≤ a ∧ lv = v ∧ av = .int .i64 a ∧ ev = .int .i64 0 ∧ scanR s = (pre ++ (scanGo s fuel a).1, (scanGo s fuel a).2) ∧ Col w wr v pre) (fun _ av _ _ => s.size - (intOf av).toNat)
  case atStart => exact ⟨_, 0, s.size, [], Nat.zero_le _, by omega, Nat.zero_le _, rfl, rfl, rfl, rfl, Col.start w⟩
  case round =>
    obtain ⟨v, a, fuel, pre, ha, hf, hpa, rfl, rfl, rfl, hR, hcol⟩ := hrel
    have HR := Lib.hid hR; have HC := Lib.hid hcol
    clear hR hcol
    by_cases hlt : a < s.size
    · obtain ⟨E, k, b, n, hD⟩ : ∃ E k b n, decP (s.extract a s.size) = (E, (k, (b, n))) := ⟨_, _, _, _, rfl⟩
      have hex : (s.extract a s.size).size < 281474976710656 := by rw [ByteArray.size_extract]; omega
      have HX := Lib.hid (fun W => decF_of hD hex W)
      have HF0 := Lib.hid (FAt.start wr)
      have HC1 := Lib.hid (HC.out.below (bl_alloc (Below.refl _ wr) (.cells #[.int .i64 0, .string ⟨#[]⟩] 25)))
      have HVL := Lib.hid (fun g hg => (HC.out.row.lt g hg).2)
      have hwl := HC.out.bel.size
      by_cases hE : E = 0
      · subst hE
        obtain ⟨hn9, hna⟩ := dec_size hD ha
        have HR2 := Lib.hid (show scanR s = ((pre ++ [((k : Int), b)]) ++ (scanGo s (fuel - 1) (a + n)).1, (scanGo s (fuel - 1) (a + n)).2) by rw [HR.out, sg_ok hlt hf hD]; simp)
        have han : IntKind.i64.wrap ((a : Int) + n) = (a : Int) + n := IntWalk.i64_in _ (by omega)
        have hn1 : 9 ≤ n := by omega
        clear hD hn9
        go_wp2_with (first
          | (go_at_call 13; (with_reducible refine (HX.out _).mono ?_); rintro r w2 ⟨rfl, hb⟩; have HC3 := Lib.hid (((HC1.out.below hb).set (p := wr.heap.size) (o := 0) (u := .int .i64 k) hwl (fun g hg e => by have := HVL.out g hg; omega)).set (p := wr.heap.size) (o := 1) (u := .string b) hwl (fun g hg e => by have := HVL.out g hg; omega)); obtain ⟨r0, r1, q0, q1⟩ := (HF0.out.below hb).cells; obtain ⟨e0, e1, hbz⟩ := (HF0.out.below hb).done (k := k) (b := b); have hsz := hb.size; have hsz2 : w.heap.size ≤ w2.heap.size := Nat.le_trans hwl (by simp at hsz; omega); clear hb hbz hsz)
          | (refine wpList_append_lies _ rfl (.tmp 24) (.tmp 26) 39 rfl w.heap.size 25 i0 (.agg #[.int .i64 0, .string ⟨#[]⟩]) 2 24 Try.underlying39 hi hz0 hz1 hz2 rfl (by decide) _ pre.length (frCells pre) rfl (HC3.out.row.alloc _) ⟨w2.heap.size, 0, none⟩ 1 1 [.int .i64 k, .string b] rfl rfl (cells_box _ _ _) (one_frame k b) (by decide) (by unfold maxLen; omega) (by omega) (by simp; omega) (w2.heap.size + 1) (by simp) ?_; intro gg cp w5 hown hg hat hlt5; have HC5 := Lib.hid (HC3.out.push hown hg); clear hown hg hat hlt5 r0 r1 q0 q1 e0 e1))
        go_roundw
        case rel => exact ⟨_, a + n, fuel - 1, _, hna, by omega, by rw [List.length_append]; show pre.length + 1 ≤ _; omega, rfl, by go_num, rfl, HR2.out, HC5.out⟩
        case measure => simp [intOf]; omega
      · have HR2 := Lib.hid (show scanR s = (pre, (a, E)) by rw [HR.out, sg_err hlt hf hD hE]; simp)
        have hed : ((E : Int) != 0) = true := by simp; omega
        clear hD hE
        go_wp2_with (go_at_call 13; (with_reducible refine (HX.out _).mono ?_); rintro r w2 ⟨rfl, hb⟩; have HC2 := Lib.hid (HC1.out.below hb); obtain ⟨r0, r1, q0, q1⟩ := (HF0.out.below hb).cells; clear hb)
        first | go_ret3 | (rw [Exit.noGoto_ret]; go_ret3)
        exact scan_mk HR2.out ((HC2.out.set hwl (fun g hg e => by have := HVL.out g hg; omega)).set hwl (fun g hg e => by have := HVL.out g hg; omega))
    · have HR2 := Lib.hid (show scanR s = (pre, (a, 0)) by rw [HR.out, sg_end (by omega)]; simp)
      go_wp2
      first | go_ret3 | (rw [Exit.noGoto_ret]; go_ret3)
      exact scan_mk HR2.out HC.out
end Go.Proofs.Ytlnekfdamdfelaa
