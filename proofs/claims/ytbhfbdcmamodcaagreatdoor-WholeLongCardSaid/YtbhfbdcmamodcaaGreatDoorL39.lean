/- A region that draws its order, some of whose operations write what its loads read: S2 need not hold behind operation z, S3 not behind operation y. -/
import Derived.Test.YtbhfbdcmamodcaaGreatDoorL37
import Derived.Deep.RegionHeld
set_option linter.unusedVariables false
set_option linter.unusedSimpArgs false
namespace Go.Proofs.YtbhfbdcmamodcaaGreatDoor
open Go.RowKit
section
variable {P : Program} {md : Region.Mode} {ops : Array Oper} {Q : Exit → Act → World → Prop} {S1 S2 S3 : World → Prop} {z y : Nat}
def HoldL (S1 S2 S3 : World → Prop) (z y : Nat) (listed : Array Bool) (w : World) : Prop := S1 w ∧ (listed.getD z true = false → S2 w) ∧ (listed.getD y true = false → S3 w)
def wpAnyL (P : Program) (md : Region.Mode) (ops : Array Oper) (Q : Exit → Act → World → Prop) (S1 S2 S3 : World → Prop) (z y : Nat) : Nat → Array Bool → Act → World → Prop
  | 0, listed, a, w => Region.ready md ops listed = [] ∧ Q .normal a w
  | fuel + 1, listed, a, w =>
    (Region.ready md ops listed = [] → Q .normal a w) ∧
    ∀ i ∈ Region.ready md ops listed, wpOp P ops Q i (fun a' w' => HoldL S1 S2 S3 z y (listed.setIfInBounds i true) w' ∧ wpAnyL P md ops Q S1 S2 S3 z y fuel (listed.setIfInBounds i true) a' w') a w
theorem wpAny_of_L : ∀ (fuel : Nat) (listed : Array Bool) (a : Act) (w : World), wpAnyL P md ops Q S1 S2 S3 z y fuel listed a w → wpAny P md ops Q fuel listed a w
  | 0, _, _, _, h => h
  | fuel + 1, _, _, _, h => ⟨h.1, fun i hi => wpOp_mono (fun a' w' h' => wpAny_of_L fuel _ a' w' h'.2) (h.2 i hi)⟩
def WaitsL (md : Region.Mode) (ops : Array Oper) (z i : Nat) (listed : Array Bool) : Prop := listed.getD z true = false ∧ ∃ oz, ops[z]? = some oz ∧ ∃ e ∈ oz.after, Region.binds md e = true ∧ e.on = i
def waitsB (md : Region.Mode) (ops : Array Oper) (z i : Nat) (listed : Array Bool) : Bool := !(listed.getD z true) && match ops[z]? with | some oz => oz.after.toList.any fun e => Region.binds md e && decide (e.on = i) | none => false
theorem WaitsL.of {z i : Nat} {listed : Array Bool} (h : waitsB md ops z i listed = true) : WaitsL md ops z i listed := by
  unfold waitsB at h
  rw [Bool.and_eq_true] at h
  obtain ⟨h1, h2⟩ := h
  refine ⟨by simpa using h1, ?_⟩
  cases ho : ops[z]? with
  | none => rw [ho] at h2; cases h2
  | some oz =>
    rw [ho] at h2
    obtain ⟨e, he, hb⟩ := List.any_eq_true.1 h2
    rw [Bool.and_eq_true] at hb
    exact ⟨oz, rfl, e, by simpa using he, hb.1, of_decide_eq_true hb.2⟩
def AskL (md : Region.Mode) (ops : Array Oper) (S1 S2 S3 T : World → Prop) (z y i : Nat) (listed : Array Bool) : Prop :=
  (∀ w, S1 w → T w) ∨ (WaitsL md ops z i listed ∧ ∀ w, S1 w → S2 w → T w) ∨ (WaitsL md ops y i listed ∧ ∀ w, S1 w → S3 w → T w)
theorem HoldL.unset {listed : Array Bool} {i : Nat} {w : World} (hz : i ≠ z) (hy : i ≠ y) (h : HoldL S1 S2 S3 z y (listed.setIfInBounds i true) w) : HoldL S1 S2 S3 z y listed w :=
  ⟨h.1, fun e => h.2.1 (by rw [getD_set_ne true hz]; exact e), fun e => h.2.2 (by rw [getD_set_ne true hy]; exact e)⟩
theorem HoldL.set {listed : Array Bool} {i : Nat} {w : World} (hz : i ≠ z) (hy : i ≠ y) (h : HoldL S1 S2 S3 z y listed w) : HoldL S1 S2 S3 z y (listed.setIfInBounds i true) w :=
  ⟨h.1, fun e => h.2.1 (by rwa [getD_set_ne true hz] at e), fun e => h.2.2 (by rwa [getD_set_ne true hy] at e)⟩
theorem wpAnyL_first {T : World → Prop} {i : Nat} {oi : Oper} {v : Value} (hi : ops[i]? = some oi) (hiz : i ≠ z) (hiy : i ≠ y) (hsel : ∀ (j : Nat) (o : Oper) cs b, ops[j]? = some o → o.op ≠ .select cs b)
    (hQ : ∀ c a w, Q (.panic c) (a.put oi.dst v) w → Q (.panic c) a w) :
    ∀ (fuel : Nat) (listed : Array Bool) (a : Act) (w : World), AskL md ops S1 S2 S3 T z y i listed →
      (∀ j oj, ops[j]? = some oj → j ≠ i → listed.getD j true = false → (∀ e ∈ oj.after, Region.binds md e = true → e.on ≠ i) → oi.apart ops oj = true) →
      i ∈ Region.ready md ops listed → YieldsIf P ops T oi v a → HoldL S1 S2 S3 z y listed w →
      wpAnyL P md ops Q S1 S2 S3 z y fuel (listed.setIfInBounds i true) (a.put oi.dst v) w → wpAnyL P md ops Q S1 S2 S3 z y (fuel + 1) listed a w := by
  have key : ∀ listed w, AskL md ops S1 S2 S3 T z y i listed → HoldL S1 S2 S3 z y listed w → T w := fun listed w hA hS => by
    rcases hA with h | ⟨h1, h3⟩ | ⟨h1, h3⟩
    · exact h w hS.1
    · exact h3 w hS.1 (hS.2.1 h1.1)
    · exact h3 w hS.1 (hS.2.2 h1.1)
  intro fuel
  induction fuel with
  | zero =>
    intro listed a w hA _ hr hy hS H
    refine ⟨fun h => (by rw [h] at hr; cases hr), fun j hj => ?_⟩
    by_cases hji : j = i
    · subst hji; exact hy.wpOp hi (key _ _ hA hS) ⟨hS.set hiz hiy, H⟩
    · have := ready_mono hj hji
      rw [H.1] at this
      cases this
  | succ fuel ih =>
    intro listed a w hA hfree hr hy hS H
    refine ⟨fun h => (by rw [h] at hr; cases hr), fun j hj => ?_⟩
    by_cases hji : j = i
    · subst hji; exact hy.wpOp hi (key _ _ hA hS) ⟨hS.set hiz hiy, H⟩
    · have h1 := H.2 j (ready_mono hj hji)
      obtain ⟨hjun, oj, hoj, hall⟩ := mem_ready.1 hj
      have hnot : ∀ e ∈ oj.after, Region.binds md e = true → e.on ≠ i := fun e he hb heq => by
        have h1 := hall e he hb
        have h0 := (mem_ready.1 hr).1
        rw [heq] at h1
        rcases Nat.lt_or_ge i listed.size with h' | h'
        · simp [h'] at h0 h1; rw [h0] at h1; cases h1
        · simp [Array.getElem?_eq_none h'] at h1
      have h2 := wpOp_putIf hoj (hfree j oj hoj hji hjun hnot) (fun cs b => hsel i oi cs b hi) (fun cs b => hsel j oj cs b hoj) hQ hy h1
      have hfree' : ∀ k ok, ops[k]? = some ok → k ≠ i → (listed.setIfInBounds j true).getD k true = false →
          (∀ e ∈ ok.after, Region.binds md e = true → e.on ≠ i) → oi.apart ops ok = true := fun k ok hk hki hun hno => by
        refine hfree k ok hk hki ?_ hno
        by_cases hjk : j = k
        · subst hjk; exact hjun
        · rw [getD_set_ne true hjk] at hun; exact hun
      have hw : ∀ z', WaitsL md ops z' i listed → WaitsL md ops z' i (listed.setIfInBounds j true) := fun z' ⟨e1, oz, e2, e, e3, e4, e5⟩ => by
        have hjz : j ≠ z' := fun h => by
          subst h
          rw [hoj] at e2
          cases e2
          exact hnot e e3 e4 e5
        exact ⟨by rw [getD_set_ne true hjz]; exact e1, oz, e2, e, e3, e4, e5⟩
      have hA' : AskL md ops S1 S2 S3 T z y i (listed.setIfInBounds j true) := by
        rcases hA with h | ⟨h1, h3⟩ | ⟨h1, h3⟩
        · exact .inl h
        · exact .inr (.inl ⟨hw _ h1, h3⟩)
        · exact .inr (.inr ⟨hw _ h1, h3⟩)
      refine wpOp_mono (fun a' w' h3 => ?_) h2
      have hS' : HoldL S1 S2 S3 z y (listed.setIfInBounds j true) w' := by
        have h4 := h3.2.1
        rw [Array.setIfInBounds_comm _ _ (Ne.symm hji)] at h4
        exact h4.unset hiz hiy
      refine ⟨hS', ih (listed.setIfInBounds j true) a' w' hA' hfree' (ready_mono hr (Ne.symm hji)) h3.1 hS' ?_⟩
      rw [Array.setIfInBounds_comm _ _ hji]
      exact h3.2.2
theorem wpAnyL_take {T : World → Prop} {i : Nat} {oi : Oper} {v : Value} {fuel : Nat} {listed : Array Bool} {a : Act} {w : World} (hi : ops[i]? = some oi) (hiz : i ≠ z) (hiy : i ≠ y)
    (hs : Region.noSelect ops = true) (hf : Region.free md ops listed i = true) (hr : (Region.ready md ops listed).contains i = true)
    (hQ : ∀ c a w, Q (.panic c) (a.put oi.dst v) w → Q (.panic c) a w) (hA : AskL md ops S1 S2 S3 T z y i listed) (hy : YieldsIf P ops T oi v a) (hS : HoldL S1 S2 S3 z y listed w)
    (h : wpAnyL P md ops Q S1 S2 S3 z y fuel (listed.setIfInBounds i true) (a.put oi.dst v) w) : wpAnyL P md ops Q S1 S2 S3 z y (fuel + 1) listed a w :=
  wpAnyL_first hi hiz hiy (Region.noSelect_spec hs) hQ fuel listed a w hA (Region.free_spec hi hf) (by simpa using hr) hy hS h
theorem wpAnyL_all {rs : List Nat} {fuel : Nat} {listed : Array Bool} {a : Act} {w : World} (hr : Region.ready md ops listed = rs) (hne : rs ≠ [])
    (h : ∀ i ∈ rs, wpOp P ops Q i (fun a' w' => HoldL S1 S2 S3 z y (listed.setIfInBounds i true) w' ∧ wpAnyL P md ops Q S1 S2 S3 z y fuel (listed.setIfInBounds i true) a' w') a w) : wpAnyL P md ops Q S1 S2 S3 z y (fuel + 1) listed a w :=
  ⟨fun h0 => absurd (hr ▸ h0) hne, hr ▸ h⟩
theorem wpAnyL_done {listed : Array Bool} {a : Act} {w : World} (hr : Region.ready md ops listed = []) (h : Q .normal a w) :
    ∀ fuel, wpAnyL P md ops Q S1 S2 S3 z y fuel listed a w
  | 0 => ⟨hr, h⟩
  | _ + 1 => ⟨fun _ => h, by rw [hr]; simp⟩
def AllL (P : Program) (md : Region.Mode) (ops : Array Oper) (Q : Exit → Act → World → Prop) (S1 S2 S3 : World → Prop) (z y : Nat) (fuel : Nat) (listed : Array Bool) (a : Act) (w : World) (rs : List Nat) : Prop :=
  ∀ i ∈ rs, wpOp P ops Q i (fun a' w' => HoldL S1 S2 S3 z y (listed.setIfInBounds i true) w' ∧ wpAnyL P md ops Q S1 S2 S3 z y fuel (listed.setIfInBounds i true) a' w') a w
theorem AllL.nil {fuel : Nat} {listed : Array Bool} {a : Act} {w : World} : AllL P md ops Q S1 S2 S3 z y fuel listed a w [] := fun _ h => by cases h
theorem AllL.cons {fuel : Nat} {listed : Array Bool} {a : Act} {w : World} {i : Nat} {o : Oper} {rs : List Nat} (ho : ops[i]? = some o)
    (h : ∀ K' : Act → World → Prop, Shut (∀ a w, HoldL S1 S2 S3 z y (listed.setIfInBounds i true) w → wpAnyL P md ops Q S1 S2 S3 z y fuel (listed.setIfInBounds i true) a w → K' a w) → if Region.wanted o (yielded ops a.tmps) = true then Oper.wp P o a w K' Q else K' (a.put o.dst undef) w)
    (hs : AllL P md ops Q S1 S2 S3 z y fuel listed a w rs) : AllL P md ops Q S1 S2 S3 z y fuel listed a w (i :: rs) := fun j hj => by
  rcases List.mem_cons.1 hj with rfl | hj
  · exact wpOp_step ho (fun K' hK => h K' (fun a w hS hW => hK a w ⟨hS, hW⟩))
  · exact hs j hj
theorem wpAnyL_ready {rs : List Nat} {fuel : Nat} {listed : Array Bool} {a : Act} {w : World} (hr : Region.ready md ops listed = rs) (hne : rs ≠ []) (h : AllL P md ops Q S1 S2 S3 z y fuel listed a w rs) : wpAnyL P md ops Q S1 S2 S3 z y (fuel + 1) listed a w := wpAnyL_all hr hne h
theorem wpAnyL_one {i : Nat} {o : Oper} {fuel : Nat} {listed : Array Bool} {a : Act} {w : World} (hr : Region.ready md ops listed = [i]) (ho : ops[i]? = some o)
    (h : ∀ K' : Act → World → Prop, Shut (∀ a w, HoldL S1 S2 S3 z y (listed.setIfInBounds i true) w → wpAnyL P md ops Q S1 S2 S3 z y fuel (listed.setIfInBounds i true) a w → K' a w) → if Region.wanted o (yielded ops a.tmps) = true then Oper.wp P o a w K' Q else K' (a.put o.dst undef) w) :
    wpAnyL P md ops Q S1 S2 S3 z y (fuel + 1) listed a w :=
  wpAnyL_ready hr (by simp) (.cons ho h .nil)
theorem wp_region_L {id : Nat} {a : Act} {w : World} (hm : P.follows .mixedOrders = true)
    (h : wpAnyL P .any ops Q S1 S2 S3 z y ops.size (Array.replicate ops.size false) a w.drew) : (Code.region id ops true).wp P Q a w :=
  wp_region_any hm (wpAny_of_L _ _ _ _ h)
end
end Go.Proofs.YtbhfbdcmamodcaaGreatDoor
