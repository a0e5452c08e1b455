/- Plain facts of layer 8: stable sorting, and the good tree that is picked out of what was sorted. -/
import Derived.Test.YtdjpmgkcgpkkmaaTrMath
set_option linter.unusedVariables false
set_option linter.unusedSimpArgs false
namespace Go.Proofs.Ytdjpmgkcgpkkmaa
namespace TrMath
open Go.Sort

theorem get_toList {d : Array (ByteArray × Int)} {i : Nat} (h : i < d.size) : d[i]! = d.toList[i]'(by simpa using h) := by
  rw [getElem!_pos d i h]; rfl
def ltE (x y : ByteArray × Int) : Bool := ltB x.1 y.1
theorem swoE : SWO ltE := ⟨fun x => ltB_irr _, fun _ _ _ h k => ltB_trans h k, fun _ _ _ h k => ltB_ntrans h k⟩
/-- Those of one path. -/
def ofP (q : ByteArray) (l : Ents) : Ents := l.filter fun e => decide (e.1 = q)
/-- The same entries, those of one path in the order in which they stood. -/
def Stb (l m : Ents) : Prop := m.length = l.length ∧ ∀ q, ofP q m = ofP q l
theorem Stb.refl (l : Ents) : Stb l l := ⟨rfl, fun _ => rfl⟩
theorem Stb.trans {l m n : Ents} (h : Stb l m) (k : Stb m n) : Stb l n := ⟨k.1.trans h.1, fun q => (k.2 q).trans (h.2 q)⟩
theorem ofP_append (q : ByteArray) (l m : Ents) : ofP q (l ++ m) = ofP q l ++ ofP q m := List.filter_append _ _
/-- Two stretches change places where none of the one has a path of the other. -/
theorem Stb.blocks (X U V Y : Ents) (h : ∀ u ∈ U, ∀ v ∈ V, u.1 ≠ v.1) : Stb (X ++ (U ++ (V ++ Y))) (X ++ (V ++ (U ++ Y))) := by
  refine ⟨by simp; omega, fun q => ?_⟩
  rw [ofP_append, ofP_append, ofP_append, ofP_append, ofP_append, ofP_append]
  congr 1
  by_cases hu : ofP q U = []
  · rw [hu]; simp
  · by_cases hv : ofP q V = []
    · rw [hv]; simp
    · exfalso
      obtain ⟨u, hu⟩ := List.exists_mem_of_ne_nil _ hu
      obtain ⟨v, hv⟩ := List.exists_mem_of_ne_nil _ hv
      have h1 := List.mem_filter.1 hu
      have h2 := List.mem_filter.1 hv
      have e1 : u.1 = q := by simpa using h1.2
      have e2 : v.1 = q := by simpa using h2.2
      exact h u h1.1 v h2.1 (e1.trans e2.symm)
theorem split3 (l : Ents) (j : Nat) (h : j + 1 < l.length) : l = l.take j ++ ([l[j]] ++ ([l[j + 1]] ++ l.drop (j + 2))) := by
  conv => lhs; rw [← List.take_append_drop j l, List.drop_eq_getElem_cons (by omega), List.drop_eq_getElem_cons h]
  rfl
theorem swp_list (d : Array (ByteArray × Int)) (j : Nat) (h : j + 1 < d.size) : (swp d (j + 1) j).toList = d.toList.take j ++ ([d[j + 1]!] ++ ([d[j]!] ++ d.toList.drop (j + 2))) := by
  apply List.ext_getElem
  · simp [swp]; omega
  · intro i h1 h2
    have hi : i < d.size := by simpa [swp] using h1
    have hj : j < d.size := by omega
    have e := swp_get d (i := j + 1) (j := j) h hj i
    rw [← get_toList (by simpa [swp] using hi), e]
    rcases Nat.lt_trichotomy i j with k | k | k
    · rw [if_neg (by omega), if_neg (by omega), List.getElem_append_left (by simp; omega), List.getElem_take, ← get_toList hi]
    · subst k
      rw [if_pos rfl, List.getElem_append_right (by simp; omega), List.getElem_append_left (by simp; omega)]
      simp
    · rw [if_neg (by omega)]
      rcases Nat.lt_or_ge (j + 1) i with k2 | k2
      · rw [if_neg (by omega), List.getElem_append_right (by simp; omega), List.getElem_append_right (by simp; omega), List.getElem_append_right (by simp; omega), List.getElem_drop, get_toList hi]
        congr 1
        simp
        omega
      · obtain rfl : i = j + 1 := by omega
        rw [if_pos rfl, List.getElem_append_right (by simp; omega), List.getElem_append_right (by simp; omega), List.getElem_append_left (by simp; omega)]
        simp
/-- Two neighbours out of order change places. -/
theorem stb_swp (d : Array (ByteArray × Int)) (j : Nat) (h : j + 1 < d.size) (hlt : ltE d[j + 1]! d[j]! = true) : Stb d.toList (swp d (j + 1) j).toList := by
  rw [swp_list d j h]
  have e := split3 d.toList j (by simpa using h)
  rw [← get_toList (by omega), ← get_toList h] at e
  conv => lhs; rw [e]
  refine Stb.blocks _ _ _ _ fun u hu v hv => ?_
  simp at hu hv
  subst hu hv
  exact fun k => ltB_ne hlt k.symm
theorem stb_inner (a : Nat) : ∀ (j : Nat) (d : Array (ByteArray × Int)), j < d.size → Stb d.toList (insInner ltE a j d).toList := by
  intro j
  induction j with
  | zero => intro d _; exact Stb.refl _
  | succ j ih =>
    intro d h
    unfold insInner
    by_cases c : (decide (j + 1 > a) && ltE d[j + 1]! d[j]!) = true
    · rw [if_pos c]
      exact (stb_swp d j h (by simp at c; exact c.2)).trans (ih _ (by simp [swp]; omega))
    · rw [if_neg c]; exact Stb.refl _
theorem size_inner (a : Nat) : ∀ (j : Nat) (d : Array (ByteArray × Int)), (insInner ltE a j d).size = d.size := by
  intro j
  induction j with
  | zero => intro d; rfl
  | succ j ih => intro d; unfold insInner; split; rw [ih]; simp [swp]; rfl
theorem stb_outer (a b : Nat) : ∀ (n i : Nat) (d : Array (ByteArray × Int)), b - i = n → b ≤ d.size → Stb d.toList (insOuter ltE a b i d).toList := by
  intro n
  induction n with
  | zero => intro i d h _; unfold insOuter; rw [if_neg (by omega)]; exact Stb.refl _
  | succ n ih =>
    intro i d h hb
    unfold insOuter
    rw [if_pos (by omega)]
    exact (stb_inner a i d (by omega)).trans (ih (i + 1) _ (by omega) (by rw [size_inner]; exact hb))
theorem stb_ins (d : Array (ByteArray × Int)) (a b : Nat) (hb : b ≤ d.size) : Stb d.toList (insertionSort ltE d a b).toList := stb_outer a b _ _ d rfl hb

/-- Ascending, equal ones allowed. -/
def Srt (l : Ents) : Prop := l.Pairwise fun a b => ltB b.1 a.1 = false
theorem srt_of {d : Array (ByteArray × Int)} (h : SortedIn ltE 0 d.size d) : Srt d.toList := by
  unfold Srt
  rw [List.pairwise_iff_getElem]
  intro i j hi hj hij
  have := h i j (Nat.zero_le _) hij (by simpa using hj)
  rw [get_toList (by simpa using hj), get_toList (by simpa using hi)] at this
  exact this

/-- The last of each path, if it holds something. -/
def pickL : Ents → Ents
  | [] => []
  | e :: r => if e.2 ≠ 0 ∧ (∀ h : 0 < r.length, r[0].1 ≠ e.1) then e :: pickL r else pickL r
theorem pick_mem : ∀ (l : Ents) (e), e ∈ pickL l → e ∈ l ∧ e.2 ≠ 0 := by
  intro l
  induction l with
  | nil => intro e h; simp [pickL] at h
  | cons x r ih =>
    intro e h
    unfold pickL at h
    split at h
    · rename_i c
      rcases List.mem_cons.1 h with rfl | h
      · exact ⟨by simp, c.1⟩
      · exact ⟨by simp [(ih e h).1], (ih e h).2⟩
    · exact ⟨by simp [(ih e h).1], (ih e h).2⟩
theorem srt_lt {x : ByteArray × Int} {r : Ents} (h : Srt (x :: r)) (hc : ∀ h : 0 < r.length, r[0].1 ≠ x.1) : ∀ e ∈ r, ltB x.1 e.1 = true := by
  obtain ⟨hx, hr⟩ := List.pairwise_cons.1 h
  cases r with
  | nil => intro e he; simp at he
  | cons y s =>
    have hxy : ltB x.1 y.1 = true := by
      cases e : ltB x.1 y.1
      · exact absurd (ltB_tri (hx y (by simp)) e) (hc (by simp))
      · rfl
    intro e he
    rcases List.mem_cons.1 he with rfl | he
    · exact hxy
    · exact ltB_lt_le hxy ((List.pairwise_cons.1 hr).1 e he)
theorem pick_asc : ∀ (l : Ents), Srt l → Asc (pickL l) := by
  intro l
  induction l with
  | nil => intro _; simp [pickL, Asc]
  | cons x r ih =>
    intro h
    have hr := (List.pairwise_cons.1 h).2
    unfold pickL
    split
    · rename_i c
      exact List.pairwise_cons.2 ⟨fun e he => srt_lt h c.2 e (pick_mem r e he).1, ih hr⟩
    · exact ih hr
/-- What the last one holds. -/
def lastV (l : Ents) : Int := match l.getLast? with | some e => e.2 | none => 0
theorem lastV_snoc (l : Ents) (e : ByteArray × Int) : lastV (l ++ [e]) = e.2 := by simp [lastV]
theorem lastV_cons (e : ByteArray × Int) (l : Ents) (h : l ≠ []) : lastV (e :: l) = lastV l := by
  unfold lastV
  rw [List.getLast?_cons]
  cases hl : l.getLast? with
  | none => exact absurd (List.getLast?_eq_none_iff.1 hl) h
  | some x => rfl
theorem pick_look : ∀ (l : Ents), Srt l → ∀ q, lookL (pickL l) q = lastV (ofP q l) := by
  intro l
  induction l with
  | nil => intro _ q; rfl
  | cons x r ih =>
    intro h q
    have hr := (List.pairwise_cons.1 h).2
    have e1 : ofP q (x :: r) = if x.1 = q then x :: ofP q r else ofP q r := by
      unfold ofP
      by_cases c : x.1 = q <;> simp [c]
    rw [e1]
    by_cases hq : x.1 = q
    · rw [if_pos hq]
      by_cases hc : ∀ h : 0 < r.length, r[0].1 ≠ x.1
      · have hn : ofP q r = [] := by
          unfold ofP
          rw [List.filter_eq_nil_iff]
          intro e he
          have := srt_lt h hc e he
          simp
          intro k
          rw [k, ← hq, ltB_irr] at this
          exact absurd this (by simp)
        rw [hn]
        unfold pickL
        by_cases hz : x.2 = 0
        · rw [if_neg (fun c => c.1 hz), ih hr q, hn]
          simp [lastV, hz]
        · rw [if_pos ⟨hz, hc⟩]
          simp [lookL, hq, lastV]
      · have hne : ofP q r ≠ [] := by
          have ⟨h0, k⟩ : ∃ h : 0 < r.length, r[0].1 = x.1 := by
            rcases Nat.eq_zero_or_pos r.length with z | z
            · exact absurd (fun h => absurd z (Nat.ne_of_gt h)) hc
            · by_cases c : r[0].1 = x.1
              · exact ⟨z, c⟩
              · exact absurd (fun _ => c) hc
          intro z
          have : r[0] ∈ ofP q r := List.mem_filter.2 ⟨List.getElem_mem h0, by simp [k, hq]⟩
          rw [z] at this
          simp at this
        unfold pickL
        rw [if_neg (fun c => hc c.2), ih hr q, lastV_cons _ _ hne]
    · rw [if_neg hq, ← ih hr q]
      rw [pickL.eq_2]
      split
      · rw [lookL, if_neg hq]
      · rfl
theorem snoc_ind {P : Ents → Prop} (h0 : P []) (h1 : ∀ l e, P l → P (l ++ [e])) : ∀ l, P l := by
  intro l
  rw [← List.reverse_reverse l]
  generalize l.reverse = m
  induction m with
  | nil => exact h0
  | cons x r ih => rw [List.reverse_cons]; exact h1 _ _ ih
theorem fold_look (l : Ents) (hs : ∀ e ∈ l, e.1.size ≤ 255) : ∀ q, lookL (foldP [] l) q = lastV (ofP q l) := by
  revert hs
  refine snoc_ind (P := fun l => (∀ e ∈ l, e.1.size ≤ 255) → ∀ q, lookL (foldP [] l) q = lastV (ofP q l)) (fun _ q => rfl) (fun l e ih hs q => ?_) l
  have h1 := ih (fun x hx => hs x (by simp [hx])) q
  have h2 := hs e (by simp)
  rw [foldP_snoc, putR, if_neg (by omega), look_put _ _ _ (foldP_good Good.nil l).asc, ofP_append, h1]
  by_cases c : q = e.1
  · subst c
    rw [if_pos rfl]
    have : ofP e.1 [e] = [e] := by simp [ofP]
    rw [this, lastV_snoc]
  · rw [if_neg c]
    have : ofP q [e] = [] := by simp [ofP]; exact fun k => c k.symm
    rw [this]; simp
/-- What is picked out of the sorted list is the good tree. -/
theorem pick_fold {l m : Ents} (hs : ∀ e ∈ l, e.1.size ≤ 255) (h : Stb l m) (hm : Srt m) : pickL m = foldP [] l :=
  asc_ext _ _ (pick_asc m hm) (foldP_good Good.nil l).asc (fun e he => (pick_mem m e he).2) (foldP_good Good.nil l).nz fun q => by
    rw [pick_look m hm, fold_look l hs, h.2 q]
end TrMath
end Go.Proofs.Ytdjpmgkcgpkkmaa
