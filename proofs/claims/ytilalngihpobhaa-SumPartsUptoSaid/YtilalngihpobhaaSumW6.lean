/- Walks of layer 1: the law SumParts, where what it reads is small. -/
import Derived.Test.YtilalngihpobhaaSumW4
import Derived.Test.YtilalngihpobhaaOpenInts
import Derived.Lib.Strings
import Derived.Lib.IndexBytes
namespace Go.Proofs.Ytilalngihpobhaa
open Go.RowKit SumMath

theorem infoStr : (Try.prog.info? 9).map (fun i => (i.zero, i.size, i.bytes)) = some (some (.string .empty), 1, 16) := by kernel_rfl

/-- What an owned row of texts reads as. -/
theorem strs_owned {w : World} {B e : Nat} {v : Value} {ps : List ByteArray} (h : w.ownsRow B e 1 v ps.length (ps.map Value.string)) (hz : ∀ s ∈ ps, s.size ≤ maxLen) :
    ∃ a cap, v = .slice a ps.length cap ∧ StrsAt w a ps := by
  obtain ⟨_, h2⟩ := h
  rcases h2 with ⟨rfl, h0⟩ | ⟨g, cap, cur, rfl, _, hg, hn, hc, hs, ht⟩
  · refine ⟨none, 0, by rw [h0], fun i hi => ?_⟩
    omega
  · refine ⟨some ⟨g, 0, none⟩, cap, rfl, fun i hi => ⟨hz _ (List.getElem_mem hi), g, 0, rfl, ?_⟩⟩
    rw [Nat.zero_add, cell_of_row w g i cur e (0, 0) hg]
    have h1 : (cur.toList.take (ps.length * 1))[i]? = (ps.map Value.string)[i]? := by rw [ht]
    rw [List.getElem?_take, if_pos (by omega)] at h1
    simpa [hi] using h1

theorem flat_append (p q : List ByteArray) : flat (p ++ q) = flat p ++ flat q := by unfold flat; rw [List.flatMap_append]
theorem flat_one (s : ByteArray) : flat [s] = s.data.toList := by simp [flat]

theorem cells_one (w : World) (v : Value) (t : TypeId) : ∀ (j : Nat) u, [v][j]? = some u → (w.alloc (.cells #[v] t)).cell? ((⟨w.heap.size, 0, none⟩ : Addr).add j) = some u := by
  intro j u hj
  match j, hj with
  | 0, hj =>
    simp at hj
    subst hj
    rw [add_form, World.cell?_alloc_new]
    rfl
theorem one_string (s : ByteArray) : ∀ u ∈ [Value.string s], u.oneCell' = true := by
  intro u hu
  simp at hu
  subst hu
  rfl

theorem owns_below {w w' : World} {base e size n : Nat} {v : Value} {xs : List Value} (h : w.ownsRow base e size v n xs) (hb : Below w.heap.size w w') : w'.ownsRow base e size v n xs := by
  refine ⟨h.1, ?_⟩
  rcases h.2 with h2 | ⟨g, cap, cur, hv, hg, hh, r⟩
  · exact .inl h2
  · refine .inr ⟨g, cap, cur, hv, hg, ?_, r⟩
    rw [hb.block g (Array.getElem?_eq_some_iff.1 hh).1]
    exact hh
theorem owns_snoc {w : World} {B e : Nat} {v : Value} {ps : List ByteArray} {s : ByteArray} (h : w.ownsRow B e 1 v (ps.length + 1) (ps.map Value.string ++ [.string s])) :
    w.ownsRow B e 1 v (ps ++ [s]).length ((ps ++ [s]).map Value.string) := by simpa using h

structure PartsAt (t : ByteArray) (k at_ : Nat) (ps : List ByteArray) : Prop where
  len : ps.length = k
  le : at_ ≤ t.size
  flat : flat ps = t.data.toList.take at_
  size : ∀ s ∈ ps, s.size ≤ maxLen

theorem PartsAt.start (t : ByteArray) : PartsAt t 0 0 [] := ⟨rfl, Nat.zero_le _, by simp [SumMath.crc, Go.Proofs.Ytilalngihpobhaa.flat], by simp⟩
theorem PartsAt.next {t : ByteArray} {k p n : Nat} {ps : List ByteArray} (h : PartsAt t k p ps) (hn : p + n ≤ t.size) (ht : t.size ≤ maxLen) : PartsAt t (k + 1) (p + n) (ps ++ [t.extract p (p + n)]) := by
  refine ⟨by simp [h.len], hn, ?_, ?_⟩
  · rw [flat_append, flat_one, h.flat, Lib.extract_data, show p + n - p = n from by omega, ← List.take_add]
  · intro s hs
    rcases List.mem_append.1 hs with h1 | h1
    · exact h.size s h1
    · simp at h1
      subst h1
      rw [ByteArray.size_extract]
      omega

theorem more_part (t : ByteArray) (p n : Nat) : more (crc (t.data.toList.take p)) (t.extract p (p + n)).data.toList = crc (t.data.toList.take (p + n)) := by
  rw [crc_append, Lib.extract_data, show p + n - p = n from by omega, ← List.take_add]
theorem more_last (t : ByteArray) (p : Nat) : more (crc (t.data.toList.take p)) (t.extract p t.size).data.toList = crc t.data.toList := by
  rw [crc_append, Lib.extract_to_end, List.take_append_drop]

set_option maxHeartbeats 2000000 in
set_option maxRecDepth 100000 in
theorem sumParts_any (t : ByteArray) (ht1 : t.size ≤ 1048576) (a : Option Addr) (cap : Nat) (cs : List Int) (hl : cs.length ≤ 1048576) (w : World) (hC : IntsAt w .u16 a cs) :
    Calls Try.prog 6 #[.string t, .slice a cs.length cap] w fun e w' => e = .returned (.bool true) ∧ Below w.heap.size w w' := by
  have ht : t.size ≤ maxLen := by unfold maxLen; omega
  have HT := Lib.hid ht
  have HC := Lib.hid hC
  clear hC
  unfold maxLen at ht
  obtain ⟨i0, hi, hz0, hz1, hz2⟩ := info_parts infoStr
  go_enter Try.func6, Try.ntmps6
  go_wp2_with (go_at_call 9; refine (known_any _).mono ?_; rintro e w1 ⟨rfl, hb1⟩)
  refine (sum_any _ 1 [t] (by simp [maxLen]) _ (strs_new w1 9 [t] (by simpa using HT.out) _ rfl)).mono ?_
  rintro e w2 ⟨rfl, hb2⟩
  rw [flat_one]
  have HB := Lib.hid (bl_trans (bl_alloc hb1 _) hb2)
  clear hb1 hb2
  go_wp2
  go_loopw [6, 7, 8, 19] (fun s p v i wr => ∃ (k q : Nat) (ps : List ByteArray), k ≤ cs.length ∧ i = .int .i64 k ∧ p = .int .i64 q ∧ s = .int .u32 (crc (t.data.toList.take q)) ∧ PartsAt t k q ps ∧
      wr.ownsRow w2.heap.size 9 1 v ps.length (ps.map Value.string) ∧ Below w2.heap.size w2 wr) (fun _ _ _ i _ => cs.length - (intOf i).toNat)
  case atStart => exact ⟨0, 0, [], Nat.zero_le _, rfl, rfl, by rw [List.take_zero]; rfl, PartsAt.start t, World.ownsRow_nil _ _ _ _, Below.refl _ _⟩
  case round =>
    obtain ⟨k, q, ps, hk, rfl, rfl, rfl, hP, hown, hbr⟩ := hrel
    have hq := hP.le
    have hpl := hP.len
    have hcl := crc_lt (t.data.toList.take q)
    have hrs := hbr.size
    have HP := Lib.hid hP
    have HR := Lib.hid hbr
    clear hP
    by_cases hlt : k < cs.length
    · have hC2 := (HC.out.below HB.out (Nat.le_refl _)).below hbr (Nat.le_refl _)
      obtain ⟨hwf, b, off, rfl, hc⟩ := hC2 k hlt
      clear hC2 hbr
      generalize cs[k] = c at hc hwf
      have hcb := bounds_u16 hwf
      obtain ⟨n, hn⟩ : ∃ n : Nat, (c : Int) % ((t.size : Int) - q + 1) = (n : Int) := Int.eq_ofNat_of_zero_le (Int.emod_nonneg _ (by omega))
      have hnl : n ≤ t.size - q := by have := Int.emod_lt_of_pos c (show (0 : Int) < (t.size : Int) - q + 1 by omega); omega
      have HN := Lib.hid (HP.out.next (n := n) (by omega) HT.out)
      have HM := Lib.hid (more_part t q n)
      clear hwf
      have hs1 : ((q : Int) + n) ≤ t.size := by omega
      go_wp2_with (first
        | (at_builtin; refine wpList_append_own _ rfl (.tmp 31) (.tmp 38) 22 rfl w2.heap.size 9 i0 (.string .empty) 1 16 Try.underlying22 hi hz0 hz1 hz2 rfl (by decide) _ _ _ rfl (hown.alloc _) ⟨wr.heap.size, 0, none⟩ 1 1 [.string (t.extract q (q + n))] rfl rfl (cells_one _ _ _) (one_string _) (by unfold maxLen; omega) (by omega) (by simp; omega) ?_; intro v' w3 hown' hgrow _; have HO := Lib.hid (owns_snoc hown'); have HG := Lib.hid ((HR.out.alloc hrs _).grown hgrow (by simp; omega) (fun j hj => (hown.lt j hj).1)); clear hown' hgrow))
      refine (more_any _ hcl (t.extract q (q + n)) (by have := HT.out; rw [ByteArray.size_extract]; omega) _).mono ?_
      rintro e w4 ⟨rfl, hb4⟩
      rw [HM.out]
      have HO4 := Lib.hid (owns_below HO.out hb4)
      have HB4 := Lib.hid (HG.out.trans (hb4.mono HG.out.size))
      clear hown hb4
      go_wp2
      go_roundw
      case rel => exact ⟨k + 1, q + n, ps ++ [t.extract q (q + n)], by omega, by go_num, by go_num, rfl, HN.out, HO4.out, HB4.out⟩
      case measure => simp [intOf]; omega
    · obtain rfl : k = cs.length := by omega
      clear hbr
      have HN := Lib.hid (HP.out.next (n := t.size - q) (by omega) HT.out)
      rw [show q + (t.size - q) = t.size from by omega] at HN
      have HM := Lib.hid (more_last t q)
      go_wp2_with (first
        | (at_builtin; refine wpList_append_own _ rfl (.tmp 52) (.tmp 56) 22 rfl w2.heap.size 9 i0 (.string .empty) 1 16 Try.underlying22 hi hz0 hz1 hz2 rfl (by decide) _ _ _ rfl (hown.alloc _) ⟨wr.heap.size, 0, none⟩ 1 1 [.string (t.extract q t.size)] rfl rfl (cells_one _ _ _) (one_string _) (by unfold maxLen; omega) (by omega) (by simp; omega) ?_; intro v' w3 hown' hgrow _; have HO := Lib.hid (owns_snoc hown'); have HG := Lib.hid ((HR.out.alloc hrs _).grown hgrow (by simp; omega) (fun j hj => (hown.lt j hj).1)); clear hown' hgrow))
      refine (more_any _ hcl (t.extract q t.size) (by have := HT.out; rw [ByteArray.size_extract]; omega) _).mono ?_
      rintro e w4 ⟨rfl, hb4⟩
      rw [HM.out]
      have HO4 := owns_below HO.out hb4
      have HB4 := Lib.hid (HG.out.trans (hb4.mono HG.out.size))
      obtain ⟨a8, cap8, hv8, hS8⟩ := strs_owned HO4 HN.out.size
      have hl8 : (ps ++ [t.extract q t.size]).length = ps.length + 1 := by simp
      rw [hl8] at hv8
      subst hv8
      have HL8 := Lib.hid hl8
      clear hl8
      have HS8 := Lib.hid hS8
      have HF := Lib.hid HN.out.flat
      clear hown hb4 HO4 HO hS8
      have hee : (((crc t.data.toList : Nat) : Int) == ((crc t.data.toList : Nat) : Int)) = true := by simp
      go_wp2_with fail
      refine (sum_at a8 _ cap8 (ps ++ [t.extract q t.size]) (by rw [HL8.out, hpl]) (by unfold maxLen; omega) _ HS8.out).mono ?_
      rintro e w5 ⟨rfl, hb5⟩
      rw [HF.out, List.take_of_length_le (by simp)]
      go_wp2
      go_ret
      exact ⟨rfl, bl_trans (bl_trans HB.out (HB4.out)) hb5⟩
end Go.Proofs.Ytilalngihpobhaa
