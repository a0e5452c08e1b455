/- Walk of layer 13: the unlike ones of some paths, in the document's answer. -/
import Derived.Test.YtplegohebfajlaaBlW8
set_option linter.unusedVariables false
set_option linter.unusedSimpArgs false
namespace Go.Proofs.Ytplegohebfajlaa
open Go.RowKit BlMath Go.Maps

theorem infoStr : (Try.prog.info? 9).map (fun i => (i.zero, i.size, i.bytes)) = some (some (.string ⟨#[]⟩), 1, 16) := by kernel_rfl
theorem ba_toList_inj {a b : ByteArray} (h : a.toList = b.toList) : a = b := by
  rw [ByteArray.toList_eq, ByteArray.toList_eq] at h
  exact ByteArray.ext (Array.toList_inj.1 h)
def strsV (l : List ByteArray) : List Value := l.map Value.string
theorem strsV_append (l m : List ByteArray) : strsV (l ++ m) = strsV l ++ strsV m := by simp [strsV]
theorem uniq_snoc (ss : List ByteArray) (k : Nat) (h : k < ss.length) : uniq (ss.take (k + 1)) = addP (uniq (ss.take k)) ss[k] := by
  unfold uniq
  rw [List.take_succ_eq_append_getElem h, List.foldl_append]
  rfl
theorem uniq_mono (ss : List ByteArray) (k : Nat) : (uniq (ss.take k)).length ≤ (uniq ss).length := by
  have h := (fold_len (ss.drop k) (uniq (ss.take k))).1
  have e : (ss.drop k).foldl addP (uniq (ss.take k)) = uniq ss := by
    unfold uniq
    rw [← List.foldl_append, List.take_append_drop]
  rwa [e] at h
/-- Is a text among the first ones? -/
def among (l : List ByteArray) (j : Nat) (x : ByteArray) : Bool := (l.take j).any (fun y => y.data.toList == x.data.toList)
theorem among_zero (l : List ByteArray) (x : ByteArray) : among l 0 x = false := by simp [among]
theorem among_eq {l : List ByteArray} {j : Nat} (h : j < l.length) (x : ByteArray) (e : l[j] = x) : among l (j + 1) x = true := by
  unfold among
  rw [List.take_succ_eq_append_getElem h, List.any_append]
  simp [e]
theorem among_ne {l : List ByteArray} {j : Nat} (h : j < l.length) (x : ByteArray) (e : l[j] ≠ x) : among l (j + 1) x = among l j x := by
  unfold among
  rw [List.take_succ_eq_append_getElem h, List.any_append]
  have h1 : (l[j].data.toList == x.data.toList) = false := by
    rw [beq_eq_false_iff_ne]
    exact fun h => e (ba_list h)
  rw [List.any_cons, h1]
  simp
theorem among_stay {l : List ByteArray} {j : Nat} (x : ByteArray) (h : among l j x = true) : among l (j + 1) x = true := by
  unfold among at h ⊢
  by_cases hj : j < l.length
  · rw [List.take_succ_eq_append_getElem hj, List.any_append, h]; rfl
  · rw [List.take_of_length_le (by omega)] at h ⊢; exact h
theorem among_all {l : List ByteArray} (x : ByteArray) : addP l x = if among l l.length x = true then l else l ++ [x] := by
  unfold addP among; rw [List.take_length]

def UnSaid (M : Int) (ss : List ByteArray) (w : World) (r : Ending) (w' : World) : Prop :=
  ∃ (k : Nat) (v : Value), k ≤ ss.length ∧ (k = ss.length ∨ M < (uniq (ss.take k)).length) ∧ r = .returned v ∧ w'.ownsRow w.heap.size 9 1 v (uniq (ss.take k)).length (strsV (uniq (ss.take k))) ∧ Below w.heap.size w w'

set_option maxHeartbeats 2000000 in
set_option maxRecDepth 100000 in
theorem unlike_any (M : Nat) (hM : M ≤ 512) (a : Option Addr) (cap : Nat) (ss : List ByteArray) (hl : ss.length ≤ maxLen) (w : World) (hs : StrsAt w a ss) :
    Calls Try.prog 24 #[.slice a ss.length cap, .int .i64 M] w (UnSaid M ss w) := by
  obtain ⟨i0, hi, hz0, hz1, hz2⟩ := info_parts infoStr
  unfold maxLen at hl
  have HS := Lib.hid hs
  clear hs
  go_enter Try.func24, Try.ntmps24
  go_wp2
  go_loopw [5, 6] (fun lv i wr => ∃ (k : Nat) (v : Value), k ≤ ss.length ∧ i = .int .i64 k ∧ lv = v ∧ wr.ownsRow w.heap.size 9 1 v (uniq (ss.take k)).length (strsV (uniq (ss.take k))) ∧ Below w.heap.size w wr) (fun _ i _ => ss.length - (intOf i).toNat)
  case atStart => exact ⟨0, _, Nat.zero_le _, rfl, rfl, World.ownsRow_nil _ _ _ _, Below.refl _ _⟩
  case round =>
    obtain ⟨k, v, hk, rfl, rfl, hown, hbb⟩ := hrel
    obtain ⟨wo, rfl⟩ : ∃ wo : World, wo = wr := ⟨_, rfl⟩
    obtain ⟨ga, gc, rfl, hga⟩ := own_slice hown
    have HO := Lib.hid hown; have HBB := Lib.hid hbb; have HGA := Lib.hid hga
    have hsz := hbb.size
    clear hown hbb hga
    have hul := uniq_len (ss.take k)
    rw [List.length_take] at hul
    by_cases hlt : k < ss.length
    · have hd : decide ((k : Int) < (ss.length : Int)) = true := by simp; omega
      obtain ⟨hpz, b0, off, rfl, hcell⟩ := HS.out.below HBB.out (Nat.le_refl _) k hlt
      have HSN := Lib.hid (uniq_snoc ss k hlt)
      have HLIM := Lib.hid (show k = ss.length ∨ (M : Int) < (uniq (ss.take k)).length ∨ ¬ (M : Int) < (uniq (ss.take k)).length from by omega)
      generalize hU : uniq (ss.take k) = U at *
      have HU := Lib.hid hU
      clear hU
      generalize ss[k] = x at *
      by_cases hbig : (M : Int) < U.length
      · have hd2 : decide ((U.length : Int) ≤ (M : Int)) = false := by simp; omega
        go_wp2
        go_ret
        exact ⟨k, _, by omega, .inr (by rw [HU.out]; exact hbig), rfl, by rw [HU.out]; exact HO.out, HBB.out⟩
      · have hd2 : decide ((U.length : Int) ≤ (M : Int)) = true := by simp; omega
        have HX := Lib.hid hcell
        go_wp2
        go_loopw [7, 8] (fun fv j wr => ∃ (m : Nat) (fb : Bool), m ≤ U.length ∧ j = .int .i64 m ∧ fv = .bool fb ∧ among U m x = (!fb) ∧ Below wo.heap.size wo wr) (fun _ j _ => U.length - (intOf j).toNat)
        case atStart => exact ⟨0, _, Nat.zero_le _, rfl, rfl, among_zero _ _, Below.refl _ _⟩
        case round =>
          obtain ⟨m, fb, hm, rfl, rfl, ham, hbq⟩ := hrel
          have HBQ := Lib.hid hbq
          have HAM := Lib.hid ham
          have hszq := hbq.size
          clear hbq ham
          have hcx := bl_cell HBQ.out HX.out
          by_cases hlt2 : m < U.length
          · have hdm : decide ((m : Int) < (U.length : Int)) = true := by simp; omega
            obtain ⟨g, rfl⟩ := HGA.out (by omega)
            have hcu := HO.out.cellAt m (by omega)
            rw [show (strsV U)[m]? = some (.string U[m]) from by simp [strsV, hlt2]] at hcu
            have hcy := bl_cell HBQ.out hcu
            clear hcu
            cases fb
            · have HST := Lib.hid (among_stay (l := U) (j := m) x (by rw [HAM.out]; rfl))
              go_wp2
              go_region
              all_goals
                go_wp2
                go_roundw
                case rel => exact ⟨m + 1, false, by omega, by go_num, rfl, by rw [HST.out]; rfl, HBQ.out.drew⟩
                case measure => simp [intOf]; omega
            · by_cases he : U[m] = x
              · have HST := Lib.hid (among_eq hlt2 x he)
                generalize U[m] = y at *
                subst he
                go_wp2
                go_region
                all_goals
                  go_wp2
                  go_roundw
                  case rel => exact ⟨m + 1, false, by omega, by go_num, rfl, by rw [HST.out]; rfl, HBQ.out.drew⟩
                  case measure => simp [intOf]; omega
              · have HST := Lib.hid (among_ne hlt2 x he)
                generalize U[m] = y at *
                have hn1 : (y.toList == x.toList) = false := by rw [beq_eq_false_iff_ne]; exact fun e => he (ba_toList_inj e)
                have hn2 : (!y.toList == x.toList) = true := by rw [hn1]; rfl
                clear he
                go_wp2
                go_region
                all_goals
                  go_wp2
                  go_roundw
                  case rel => exact ⟨m + 1, true, by omega, by go_num, rfl, by rw [HST.out, HAM.out], HBQ.out.drew⟩
                  case measure => simp [intOf]; omega
          · have hdm : decide ((m : Int) < (U.length : Int)) = false := by simp; omega
            obtain rfl : m = U.length := by omega
            have HAD := Lib.hid (among_all (l := U) x)
            have HOQ := Lib.hid (own_bel HO.out HBQ.out)
            cases fb
            · have HADD : Hid (addP U x = U) := Lib.hid (by rw [HAD.out, if_pos (by rw [HAM.out]; rfl)])
              go_wp2
              go_roundw
              case rel => exact ⟨k + 1, _, by omega, by go_num, rfl, by rw [HSN.out, HADD.out]; exact HOQ.out, HBB.out.trans (HBQ.out.mono hsz)⟩
              case measure => simp [intOf]; omega
            · have HADD : Hid (addP U x = U ++ [x]) := Lib.hid (by rw [HAD.out, if_neg (by rw [HAM.out]; simp)])
              have hul2 : U.length ≤ 512 := by omega
              go_wp2_with (refine wpList_append_lies _ rfl (.tmp 40) (.tmp 45) 34 rfl w.heap.size 9 i0 (.string ⟨#[]⟩) 1 16 Try.underlying34 hi hz0 hz1 hz2 rfl (by decide) _ U.length (strsV U) rfl (HOQ.out.alloc _) ⟨wr.heap.size, 0, none⟩ 1 1 [.string x] rfl rfl (cells_one _ _ _) (by intro u hu; rw [List.mem_singleton.1 hu]; rfl) (by decide) (by unfold maxLen; omega) (by omega) (by simp; omega) (wr.heap.size + 1) (by simp) ?_; intro g cap2 w7 hown hg hat hlt3; have HB7 := Lib.hid ((HBB.out.trans (HBQ.out.mono hsz)).trans (below_ownE HOQ.out hg (by omega))); have HO7 := Lib.hid hown; clear hown hg hat hlt3)
              go_roundw
              case rel => exact ⟨k + 1, _, by omega, by go_num, rfl, by rw [HSN.out, HADD.out, List.length_append, strsV_append]; exact HO7.out, HB7.out⟩
              case measure => simp [intOf]; omega
    · have hd : decide ((k : Int) < (ss.length : Int)) = false := by simp; omega
      go_wp2
      go_ret
      exact ⟨k, _, by omega, .inl (by omega), rfl, HO.out, HBB.out⟩
end Go.Proofs.Ytplegohebfajlaa
