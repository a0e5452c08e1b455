/- Walks of layer 8: the document's Put. -/
import Derived.Test.YtdjpmgkcgpkkmaaTrSt
set_option linter.unusedVariables false
set_option linter.unusedSimpArgs false
namespace Go.Proofs.Ytdjpmgkcgpkkmaa
open Go.RowKit TrMath

theorem blessE : ∀ (x y : List UInt8), Op.bytesLess x y = decide (x < y)
  | [], [] => by simp [Op.bytesLess]
  | _ :: _, [] => by simp [Op.bytesLess]
  | [], _ :: _ => by simp [Op.bytesLess]
  | a :: x, b :: y => by
    rw [Op.bytesLess, blessE x y]
    simp only [List.cons_lt_cons_iff]
    by_cases h1 : a < b <;> by_cases h2 : a = b <;> by_cases h3 : x < y <;> simp [h1, h2, h3]
theorem bless (q p : ByteArray) : Op.bytesLess q.toList p.toList = ltB q p := by
  rw [blessE]
  unfold ltB kB
  simp only [ByteArray.toList_eq]
theorem EnAt.drop {w : World} {b off : Nat} {l : Ents} (h : EnAt w (some ⟨b, off, none⟩) l) (k : Nat) : EnAt w (some ⟨b, off + k * 2, none⟩) (l.drop k) := fun i hi => by
  have hi' : k + i < l.length := by simp at hi; omega
  obtain ⟨b', off', h1, h0, h2, h3⟩ := h (k + i) hi'
  cases h1
  refine ⟨b, off + k * 2, rfl, h0, ?_, ?_⟩
  · rw [List.getElem_drop, show off + k * 2 + i * 2 = off + (k + i) * 2 from by omega]; exact h2
  · rw [List.getElem_drop, show off + k * 2 + i * 2 + 1 = off + (k + i) * 2 + 1 from by omega]; exact h3
theorem src_tail {w : World} {b off cc n : Nat} {l : Ents} (h : EnAt w (some ⟨b, off, none⟩) l) (k : Nat) (hn : (l.drop k).length = n) : Src Try.prog 2 22 (.slice (some ⟨b, off + k * 2, none⟩) n cc) n (enCells (l.drop k)) w := by
  subst hn
  exact src_en (h.drop k)
theorem src_end {w : World} {b off cc n : Nat} (hn : n = 0) : Src Try.prog 2 22 (.slice (some ⟨b, off, none⟩) n cc) n (enCells []) w := by
  subst hn
  exact Src.ofSlice w Try.underlying22 _ 0 cc [] rfl (fun j u hj => by simp at hj) (fun u hu => by simp at hu)

/-- A slice of entries as it comes: nil, or at a place. -/
structure Sl (a : Option Addr) (c : Nat) (l : Ents) : Prop where
  le : l.length ≤ c
  cm : c ≤ maxLen
  pl : (a = none ∧ c = 0) ∨ ∃ b off, a = some ⟨b, off, none⟩
theorem Own.sl {w : World} {B : Nat} {v : Value} {l : Ents} (h : Own w B v l) : ∃ a c, v = .slice a l.length c ∧ EnAt w a l ∧ Sl a c l := by
  rcases h.2 with ⟨h1, h2⟩ | ⟨g, cap, cur, hvv, hgB, hh, hn, hm, r⟩
  · exact ⟨none, 0, by rw [h1, h2], fun i hi => by omega, ⟨by omega, by simp [maxLen], .inl ⟨rfl, rfl⟩⟩⟩
  · obtain ⟨a, c, hv, he, _⟩ := Own.at h
    rw [hvv] at hv
    simp only [Value.slice.injEq] at hv
    obtain ⟨rfl, _, rfl⟩ := hv
    exact ⟨_, _, hvv, he, ⟨hn, hm, .inr ⟨_, _, rfl⟩⟩⟩
theorem put_end {l : Ents} {p : ByteArray} {v : Int} {i : Nat} (hi : i = l.length) (hlo : ∀ j (h : j < l.length), j < i → ltB l[j].1 p = true) : putL l p v = l.take i ++ (if v = 0 then [] else [(p, v)]) := by
  rw [putL_split p v l i (by omega) hlo (fun h => by omega), if_neg (c := ∃ h : i < l.length, l[i].1 = p) (fun ⟨h, _⟩ => by omega), List.drop_eq_nil_of_le (by omega)]
  simp
theorem put_mid {l : Ents} {p : ByteArray} {v : Int} {i : Nat} (hi : i < l.length) (hlo : ∀ j (h : j < l.length), j < i → ltB l[j].1 p = true) (hh : ltB l[i].1 p = false) (hn : l[i].1 ≠ p) : putL l p v = (l.take i ++ (if v = 0 then [] else [(p, v)])) ++ l.drop i := by
  rw [putL_split p v l i (by omega) hlo (fun _ => hh), if_neg (c := ∃ h : i < l.length, l[i].1 = p) (fun ⟨_, k⟩ => hn k)]
  simp
theorem put_hit {l : Ents} {p : ByteArray} {v : Int} {i : Nat} (hi : i < l.length) (hlo : ∀ j (h : j < l.length), j < i → ltB l[j].1 p = true) (hn : l[i].1 = p) : putL l p v = (l.take i ++ (if v = 0 then [] else [(p, v)])) ++ l.drop (i + 1) := by
  rw [putL_split p v l i (by omega) hlo (fun _ => by rw [hn]; exact ltB_irr p), if_pos (c := ∃ h : i < l.length, l[i].1 = p) ⟨hi, hn⟩]
  simp

theorem own_fin {w : World} {B g cap n : Nat} {l m : Ents} (h : OwnB w B g cap l) (e : m = l) (hn : l.length = n) : Own w B (.slice (some ⟨g, 0, none⟩) n cap) m := by
  subst hn e; exact h.own
set_option maxHeartbeats 2000000 in
set_option maxRecDepth 100000 in
theorem rPutAt (l : Ents) (p : ByteArray) (v : Int) (hv0 : 0 ≤ v) (hv1 : v < 4294967296) (b1 o1 : Nat) (c : Nat) (hcl : l.length ≤ c) (hcm : c ≤ maxLen) (hl : l.length ≤ 1099511627776) (w : World) (h : EnAt w (some ⟨b1, o1, none⟩) l) (hshort : ¬ 255 < p.size) :
    Calls Try.prog 23 #[.slice (some ⟨b1, o1, none⟩) l.length c, .string p, .int .u32 v] w fun e w' => ∃ v', e = .returned v' ∧ Own w' w.heap.size v' (putR l p v) ∧ Below w.heap.size w w' := by
  unfold maxLen at hcm
  have HA := Lib.hid h
  have HR := Lib.hid (show putR l p v = putL l p v by unfold putR; rw [if_neg hshort])
  clear h
  go_enter Try.func23, Try.ntmps23
  go_wp2_with (refine wpList_made _ rfl _ (.tmp 11) rfl rfl _ (l.length + 1) rfl (by omega) (by omega) ?_; intro w1 hB hb hs; have HB1 := Lib.hid hB; have HL1 := Lib.hid hb; clear hB hb hs)
  go_loopw [7, 8] (fun ov iv wr => ∃ i : Nat, i ≤ l.length ∧ iv = .int .i64 i ∧ ov = .slice (some ⟨w.heap.size, 0, none⟩) i (l.length + 1) ∧ (∀ j (h : j < l.length), j < i → ltB l[j].1 p = true) ∧ OwnB wr w.heap.size w.heap.size (l.length + 1) (l.take i) ∧ Below w.heap.size w wr) (fun _ iv _ => l.length - (intOf iv).toNat)
  case atStart => exact ⟨0, Nat.zero_le _, rfl, rfl, fun j _ h => absurd h (Nat.not_lt_zero _), HB1.out, HL1.out⟩
  case round =>
    obtain ⟨i, hi, rfl, rfl, hlo, hown, hbel⟩ := hrel
    have HLO := Lib.hid hlo; have HO := Lib.hid hown; have HB := Lib.hid hbel
    have htk : (l.take i).length = i := by rw [List.length_take]; omega
    have HTK := Lib.hid htk
    clear hlo hown hbel htk
    by_cases hil : i < l.length
    · have hilz : decide ((i : Int) < (l.length : Int)) = true := by simp; omega
      obtain ⟨b1', o1', hbb, hb1, p1, p2⟩ := HA.out.below HB.out i hil
      cases hbb
      obtain ⟨q, x, hx⟩ : ∃ q x, l[i] = (q, x) := ⟨_, _, rfl⟩
      rw [hx] at p1 p2
      have HX := Lib.hid hx
      clear hx
      by_cases hlt : ltB q p = true
      · have HT2 := Lib.hid (show l.take i ++ [(q, x)] = l.take (i + 1) by rw [List.take_succ_eq_append_getElem hil, HX.out])
        have HLT := Lib.hid hlt
        have hbl : Op.bytesLess q.toList p.toList = true := by rw [bless]; exact hlt
        clear hlt
        go_wp2_with (refine wpList_room _ rfl (.tmp 32) (.tmp 37) rfl w.heap.size w.heap.size (l.length + 1) i (l.take i) rfl HTK.out (HO.out.below (bl_alloc (Below.refl _ wr) _)) _ rfl 1 [(q, x)] rfl (src_en (en_alloc1 wr q x _)) (by omega) ?_; intro w2 hB hb hs; have HB2 := Lib.hid hB; have HL2 := Lib.hid (gb_to_below (bl_alloc HB.out _) hb (bl_alloc HB.out _).size (by intro i hi; cases hi; omega)); clear hB hb hs)
        go_roundw
        case rel => exact ⟨i + 1, by omega, by go_num, rfl, fun j h hj => by
          rcases Nat.lt_or_ge j i with k | k
          · exact HLO.out j h k
          · obtain rfl : j = i := by omega
            rw [HX.out]; exact HLT.out, by rw [← HT2.out]; exact HB2.out, HL2.out⟩
        case measure => simp [intOf]; omega
      · have hbl : Op.bytesLess q.toList p.toList = false := by rw [bless]; simpa using hlt
        have HHI := Lib.hid (show ltB l[i].1 p = false by rw [HX.out]; simpa using hlt)
        have hcne : ¬ (c = i) := by omega
        clear hlt
        by_cases hqp : q = p
        · have heq : l[i].1 = p := by rw [HX.out]; exact hqp
          have HEQ := Lib.hid heq
          have hqe : (q.toList == p.toList) = true := by rw [hqp]; simp
          have hz1 : (i : Int) + 1 ≤ l.length := by omega
          have hz2 : (0 : Int) ≤ (i : Int) + 1 := by omega
          have hz3 : ((i : Int) + 1).toNat = i + 1 := by omega
          clear heq hqp
          by_cases hv : v = 0
          · by_cases hce : c = i + 1
            · subst hv
              have hvz : ((0 : Int) != 0) = false := rfl
              go_wp2_with (first | (refine wpList_room _ rfl (.tmp 64) (.tmp 67) rfl w.heap.size w.heap.size (l.length + 1) i (l.take i) rfl HTK.out HO.out _ rfl _ [] (by first | (show 0 = _; omega) | simp) (src_end (by omega)) (by omega) ?_; intro w3 hB hb hs; have HB3 := Lib.hid hB; have HL3 := Lib.hid (gb_to_below HB.out hb HB.out.size (by intro i hi; cases hi; omega)); clear hB hb hs))
              go_ret
              exact ⟨_, rfl, own_fin HB3.out (by rw [HR.out, put_hit hil HLO.out HEQ.out, if_pos rfl]; rw [List.drop_eq_nil_of_le (by omega)]; try simp) (by simp; try omega), HL3.out⟩
            · skip
              subst hv
              have hvz : ((0 : Int) != 0) = false := rfl
              go_wp2_with (first | (refine wpList_room _ rfl (.tmp 64) (.tmp 67) rfl w.heap.size w.heap.size (l.length + 1) i (l.take i) rfl HTK.out HO.out _ rfl _ (l.drop (i + 1)) (by first | (show 0 = _; omega) | simp) (src_tail (HA.out.below HB.out) (i + 1) (by simp)) (by omega) ?_; intro w3 hB hb hs; have HB3 := Lib.hid hB; have HL3 := Lib.hid (gb_to_below HB.out hb HB.out.size (by intro i hi; cases hi; omega)); clear hB hb hs))
              go_ret
              exact ⟨_, rfl, own_fin HB3.out (by rw [HR.out, put_hit hil HLO.out HEQ.out, if_pos rfl]; try simp) (by simp; try omega), HL3.out⟩
          · by_cases hce : c = i + 1
            · have hvz : (v != 0) = true := by simpa using hv
              go_wp2_with (first | (refine wpList_room _ rfl (.tmp 43) (.tmp 47) rfl w.heap.size w.heap.size (l.length + 1) i (l.take i) rfl HTK.out (HO.out.below (bl_alloc (Below.refl _ wr) _)) _ rfl 1 [(p, v)] rfl (src_en (en_alloc1 wr p v _)) (by omega) ?_; intro w2 hB hb hs; have HB2 := Lib.hid hB; have HL2 := Lib.hid (gb_to_below (bl_alloc HB.out _) hb (bl_alloc HB.out _).size (by intro i hi; cases hi; omega)); clear hB hb hs; obtain ⟨b9, o9, hbb9, _, r1, r2⟩ := HA.out.below HL2.out i hil; cases hbb9; rw [HX.out] at r1 r2) | (refine wpList_room _ rfl (.tmp 64) (.tmp 67) rfl w.heap.size w.heap.size (l.length + 1) (i + 1) (l.take i ++ [(p, v)]) rfl (by rw [List.length_append, HTK.out]; rfl) HB2.out _ rfl _ [] (by first | (show 0 = _; omega) | simp) (src_end (by omega)) (by omega) ?_; intro w3 hB hb hs; have HB3 := Lib.hid hB; have HL3 := Lib.hid (gb_to_below HL2.out hb HL2.out.size (by intro i hi; cases hi; omega)); clear hB hb hs))
              go_ret
              exact ⟨_, rfl, own_fin HB3.out (by rw [HR.out, put_hit hil HLO.out HEQ.out, if_neg hv]; rw [List.drop_eq_nil_of_le (by omega)]; try simp) (by simp; try omega), HL3.out⟩
            · skip
              have hvz : (v != 0) = true := by simpa using hv
              go_wp2_with (first | (refine wpList_room _ rfl (.tmp 43) (.tmp 47) rfl w.heap.size w.heap.size (l.length + 1) i (l.take i) rfl HTK.out (HO.out.below (bl_alloc (Below.refl _ wr) _)) _ rfl 1 [(p, v)] rfl (src_en (en_alloc1 wr p v _)) (by omega) ?_; intro w2 hB hb hs; have HB2 := Lib.hid hB; have HL2 := Lib.hid (gb_to_below (bl_alloc HB.out _) hb (bl_alloc HB.out _).size (by intro i hi; cases hi; omega)); clear hB hb hs; obtain ⟨b9, o9, hbb9, _, r1, r2⟩ := HA.out.below HL2.out i hil; cases hbb9; rw [HX.out] at r1 r2) | (refine wpList_room _ rfl (.tmp 64) (.tmp 67) rfl w.heap.size w.heap.size (l.length + 1) (i + 1) (l.take i ++ [(p, v)]) rfl (by rw [List.length_append, HTK.out]; rfl) HB2.out _ rfl _ (l.drop (i + 1)) (by first | (show 0 = _; omega) | simp) (src_tail (HA.out.below HL2.out) (i + 1) (by simp)) (by omega) ?_; intro w3 hB hb hs; have HB3 := Lib.hid hB; have HL3 := Lib.hid (gb_to_below HL2.out hb HL2.out.size (by intro i hi; cases hi; omega)); clear hB hb hs))
              go_ret
              exact ⟨_, rfl, own_fin HB3.out (by rw [HR.out, put_hit hil HLO.out HEQ.out, if_neg hv]; try simp) (by simp; try omega), HL3.out⟩
        · have HNE := Lib.hid (show l[i].1 ≠ p by rw [HX.out]; exact hqp)
          have hqe : (q.toList == p.toList) = false := str_eq hqp
          clear hqp
          by_cases hv : v = 0
          · skip
            subst hv
            have hvz : ((0 : Int) != 0) = false := rfl
            go_wp2_with (first | (refine wpList_room _ rfl (.tmp 64) (.tmp 67) rfl w.heap.size w.heap.size (l.length + 1) i (l.take i) rfl HTK.out HO.out _ rfl _ (l.drop (i)) (by first | (show 0 = _; omega) | simp) (src_tail (HA.out.below HB.out) (i) (by simp)) (by omega) ?_; intro w3 hB hb hs; have HB3 := Lib.hid hB; have HL3 := Lib.hid (gb_to_below HB.out hb HB.out.size (by intro i hi; cases hi; omega)); clear hB hb hs))
            go_ret
            exact ⟨_, rfl, own_fin HB3.out (by rw [HR.out, put_mid hil HLO.out HHI.out HNE.out, if_pos rfl]; try simp) (by simp; try omega), HL3.out⟩
          · skip
            have hvz : (v != 0) = true := by simpa using hv
            go_wp2_with (first | (refine wpList_room _ rfl (.tmp 43) (.tmp 47) rfl w.heap.size w.heap.size (l.length + 1) i (l.take i) rfl HTK.out (HO.out.below (bl_alloc (Below.refl _ wr) _)) _ rfl 1 [(p, v)] rfl (src_en (en_alloc1 wr p v _)) (by omega) ?_; intro w2 hB hb hs; have HB2 := Lib.hid hB; have HL2 := Lib.hid (gb_to_below (bl_alloc HB.out _) hb (bl_alloc HB.out _).size (by intro i hi; cases hi; omega)); clear hB hb hs; obtain ⟨b9, o9, hbb9, _, r1, r2⟩ := HA.out.below HL2.out i hil; cases hbb9; rw [HX.out] at r1 r2) | (refine wpList_room _ rfl (.tmp 64) (.tmp 67) rfl w.heap.size w.heap.size (l.length + 1) (i + 1) (l.take i ++ [(p, v)]) rfl (by rw [List.length_append, HTK.out]; rfl) HB2.out _ rfl _ (l.drop (i)) (by first | (show 0 = _; omega) | simp) (src_tail (HA.out.below HL2.out) (i) (by simp)) (by omega) ?_; intro w3 hB hb hs; have HB3 := Lib.hid hB; have HL3 := Lib.hid (gb_to_below HL2.out hb HL2.out.size (by intro i hi; cases hi; omega)); clear hB hb hs))
            go_ret
            exact ⟨_, rfl, own_fin HB3.out (by rw [HR.out, put_mid hil HLO.out HHI.out HNE.out, if_neg hv]; try simp) (by simp; try omega), HL3.out⟩
    · obtain rfl : i = l.length := by omega
      have hilz : decide ((l.length : Int) < (l.length : Int)) = false := by simp
      by_cases hv : v = 0
      · by_cases hce : c = l.length
        · subst hv
          have hvz : ((0 : Int) != 0) = false := rfl
          go_wp2_with (first | (refine wpList_room _ rfl (.tmp 64) (.tmp 67) rfl w.heap.size w.heap.size (l.length + 1) l.length (l.take l.length) rfl HTK.out HO.out _ rfl _ [] (by first | (show 0 = _; omega) | simp) (src_end (by omega)) (by omega) ?_; intro w3 hB hb hs; have HB3 := Lib.hid hB; have HL3 := Lib.hid (gb_to_below HB.out hb HB.out.size (by intro i hi; cases hi; omega)); clear hB hb hs))
          go_ret
          exact ⟨_, rfl, own_fin HB3.out (by rw [HR.out, put_end rfl HLO.out, if_pos rfl]; try simp) (by simp; try omega), HL3.out⟩
        · skip
          subst hv
          have hvz : ((0 : Int) != 0) = false := rfl
          go_wp2_with (first | (refine wpList_room _ rfl (.tmp 64) (.tmp 67) rfl w.heap.size w.heap.size (l.length + 1) l.length (l.take l.length) rfl HTK.out HO.out _ rfl _ [] (by first | (show 0 = _; omega) | simp) (src_end (by omega)) (by omega) ?_; intro w3 hB hb hs; have HB3 := Lib.hid hB; have HL3 := Lib.hid (gb_to_below HB.out hb HB.out.size (by intro i hi; cases hi; omega)); clear hB hb hs))
          go_ret
          exact ⟨_, rfl, own_fin HB3.out (by rw [HR.out, put_end rfl HLO.out, if_pos rfl]; try simp) (by simp; try omega), HL3.out⟩
      · by_cases hce : c = l.length
        · have hvz : (v != 0) = true := by simpa using hv
          go_wp2_with (first | (refine wpList_room _ rfl (.tmp 43) (.tmp 47) rfl w.heap.size w.heap.size (l.length + 1) l.length (l.take l.length) rfl HTK.out (HO.out.below (bl_alloc (Below.refl _ wr) _)) _ rfl 1 [(p, v)] rfl (src_en (en_alloc1 wr p v _)) (by omega) ?_; intro w2 hB hb hs; have HB2 := Lib.hid hB; have HL2 := Lib.hid (gb_to_below (bl_alloc HB.out _) hb (bl_alloc HB.out _).size (by intro i hi; cases hi; omega)); clear hB hb hs) | (refine wpList_room _ rfl (.tmp 64) (.tmp 67) rfl w.heap.size w.heap.size (l.length + 1) (l.length + 1) (l.take l.length ++ [(p, v)]) rfl (by rw [List.length_append, HTK.out]; rfl) HB2.out _ rfl _ [] (by first | (show 0 = _; omega) | simp) (src_end (by omega)) (by omega) ?_; intro w3 hB hb hs; have HB3 := Lib.hid hB; have HL3 := Lib.hid (gb_to_below HL2.out hb HL2.out.size (by intro i hi; cases hi; omega)); clear hB hb hs))
          go_ret
          exact ⟨_, rfl, own_fin HB3.out (by rw [HR.out, put_end rfl HLO.out, if_neg hv]; try simp) (by simp; try omega), HL3.out⟩
        · skip
          have hvz : (v != 0) = true := by simpa using hv
          go_wp2_with (first | (refine wpList_room _ rfl (.tmp 43) (.tmp 47) rfl w.heap.size w.heap.size (l.length + 1) l.length (l.take l.length) rfl HTK.out (HO.out.below (bl_alloc (Below.refl _ wr) _)) _ rfl 1 [(p, v)] rfl (src_en (en_alloc1 wr p v _)) (by omega) ?_; intro w2 hB hb hs; have HB2 := Lib.hid hB; have HL2 := Lib.hid (gb_to_below (bl_alloc HB.out _) hb (bl_alloc HB.out _).size (by intro i hi; cases hi; omega)); clear hB hb hs) | (refine wpList_room _ rfl (.tmp 64) (.tmp 67) rfl w.heap.size w.heap.size (l.length + 1) (l.length + 1) (l.take l.length ++ [(p, v)]) rfl (by rw [List.length_append, HTK.out]; rfl) HB2.out _ rfl _ [] (by first | (show 0 = _; omega) | simp) (src_end (by omega)) (by omega) ?_; intro w3 hB hb hs; have HB3 := Lib.hid hB; have HL3 := Lib.hid (gb_to_below HL2.out hb HL2.out.size (by intro i hi; cases hi; omega)); clear hB hb hs))
          go_ret
          exact ⟨_, rfl, own_fin HB3.out (by rw [HR.out, put_end rfl HLO.out, if_neg hv]; try simp) (by simp; try omega), HL3.out⟩

set_option maxHeartbeats 2000000 in
set_option maxRecDepth 100000 in
theorem rPutNil (p : ByteArray) (v : Int) (hv0 : 0 ≤ v) (hv1 : v < 4294967296) (w : World) (hshort : ¬ 255 < p.size) :
    Calls Try.prog 23 #[.slice none 0 0, .string p, .int .u32 v] w fun e w' => ∃ v', e = .returned v' ∧ Own w' w.heap.size v' (putR [] p v) ∧ Below w.heap.size w w' := by
  have HR := Lib.hid (show putR [] p v = putL [] p v by unfold putR; rw [if_neg hshort])
  go_enter Try.func23, Try.ntmps23
  go_wp2_with (refine wpList_made _ rfl _ (.tmp 11) rfl rfl _ 1 rfl (by omega) (by omega) ?_; intro w1 hB hb hs; have HB1 := Lib.hid hB; have HL1 := Lib.hid hb; clear hB hb hs)
  go_loopw [7, 8] (fun ov iv wr => ov = .slice (some ⟨w.heap.size, 0, none⟩) 0 1 ∧ iv = .int .i64 0 ∧ wr = w1) (fun _ _ _ => 0)
  case atStart => exact ⟨rfl, rfl, rfl⟩
  case round =>
    obtain ⟨rfl, rfl, rfl⟩ := hrel
    by_cases hv : v = 0
    · have hvz : (v != 0) = false := by simpa using hv
      go_wp2_with (refine wpList_room _ rfl (.tmp 64) (.tmp 67) rfl w.heap.size w.heap.size 1 0 [] rfl rfl HB1.out _ rfl _ [] (by simp) (Src.ofNil _ Try.underlying22 _) (by omega) ?_; intro w3 hB hb hs; have HB3 := Lib.hid hB; have HL3 := Lib.hid (gb_to_below HL1.out hb HL1.out.size (by intro i hi; cases hi; omega)); clear hB hb hs)
      go_ret
      exact ⟨_, rfl, by rw [HR.out, putL, if_pos hv]; exact HB3.out.own, HL3.out⟩
    · have hvz : (v != 0) = true := by simpa using hv
      go_wp2_with (first
        | (refine wpList_room _ rfl (.tmp 43) (.tmp 47) rfl w.heap.size w.heap.size 1 0 [] rfl rfl (HB1.out.below (bl_alloc (Below.refl _ wr) _)) _ rfl 1 [(p, v)] rfl (src_en (en_alloc1 wr p v _)) (by omega) ?_; intro w2 hB hb hs; have HB2 := Lib.hid hB; have HL2 := Lib.hid (gb_to_below (bl_alloc HL1.out _) hb (bl_alloc HL1.out _).size (by intro i hi; cases hi; omega)); clear hB hb hs)
        | (refine wpList_room _ rfl (.tmp 64) (.tmp 67) rfl w.heap.size w.heap.size 1 1 [(p, v)] rfl rfl HB2.out _ rfl _ [] (by simp) (Src.ofNil _ Try.underlying22 _) (by omega) ?_; intro w3 hB hb hs; have HB3 := Lib.hid hB; have HL3 := Lib.hid (gb_to_below HL2.out hb HL2.out.size (by intro i hi; cases hi; omega)); clear hB hb hs))
      go_ret
      exact ⟨_, rfl, by rw [HR.out, putL, if_neg hv]; exact HB3.out.own, HL3.out⟩

set_option maxHeartbeats 1000000 in
set_option maxRecDepth 100000 in
theorem rPutLong (l : Ents) (p : ByteArray) (v : Int) (a : Option Addr) (c : Nat) (hl : l.length ≤ 1099511627776) (w : World) (h : EnAt w a l) (hlong : 255 < p.size) :
    Calls Try.prog 23 #[.slice a l.length c, .string p, .int .u32 v] w fun e w' => ∃ v', e = .returned v' ∧ Own w' w.heap.size v' (putR l p v) ∧ Below w.heap.size w w' := by
  have HA := Lib.hid h
  have HR := Lib.hid (show putR l p v = l by unfold putR; rw [if_pos hlong])
  clear h
  go_enter Try.func23, Try.ntmps23
  go_wp2_with (first
    | (refine wpList_made _ rfl _ (.tmp 11) rfl rfl _ (l.length + 1) rfl (by omega) (by omega) ?_; intro w1 hB hb hs; have HB1 := Lib.hid hB; have HL1 := Lib.hid hb; clear hB hb hs)
    | (refine wpList_room _ rfl (.tmp 16) (.tmp 17) rfl w.heap.size w.heap.size (l.length + 1) 0 [] rfl rfl HB1.out _ rfl l.length l rfl (src_en (HA.out.below HL1.out)) (by omega) ?_; rw [Nat.zero_add]; intro w2 hB hb hs; have HB2 := Lib.hid hB; have HL2 := Lib.hid (gb_to_below HL1.out hb HL1.out.size (by intro i hi; cases hi; omega)); clear hB hb hs))
  go_ret
  exact ⟨_, rfl, by rw [HR.out]; exact HB2.out.own, HL2.out⟩
theorem rPut (l : Ents) (p : ByteArray) (v : Int) (hv0 : 0 ≤ v) (hv1 : v < 4294967296) (a : Option Addr) (c : Nat) (hs : Sl a c l) (hl : l.length ≤ 1099511627776) (w : World) (h : EnAt w a l) :
    Calls Try.prog 23 #[.slice a l.length c, .string p, .int .u32 v] w fun e w' => ∃ v', e = .returned v' ∧ Own w' w.heap.size v' (putR l p v) ∧ Below w.heap.size w w' := by
  by_cases hlong : 255 < p.size
  · exact rPutLong l p v a c hl w h hlong
  · rcases hs.pl with ⟨rfl, rfl⟩ | ⟨b, off, rfl⟩
    · have hl0 : l = [] := List.eq_nil_of_length_eq_zero (by have := hs.le; omega)
      subst hl0
      exact rPutNil p v hv0 hv1 w hlong
    · exact rPutAt l p v hv0 hv1 b off c hs.le hs.cm hl w h hlong
end Go.Proofs.Ytdjpmgkcgpkkmaa
