/- A region that only reads, in a round of a range over a function: one walk in the text's order. -/
import Derived.RangeFuncNested
import Derived.RangeFuncLeaves
import Derived.Shelf.RegionOpen
import Derived.OwnWalkIn
set_option linter.unusedVariables false
set_option linter.unusedSimpArgs false
namespace Go.Proofs.Ytlnekfdamdfelaa
open Go.RowKit

def calmOp (o : Oper) : Bool := match o.op with
  | .defer _ => false
  | _ => true
theorem calm_not {o : Oper} (h : calmOp o = true) : ∀ c, o.op ≠ .defer c := by
  intro c e
  unfold calmOp at h
  rw [e] at h
  cases h
section
variable {F : Fence} {n : Nat} {P : Program} {ops : Array Oper} {C : World → Prop} {md : Region.Mode}
theorem quiet_oper {o : Oper} {a : Act} {K : Act → Prop} {K' : Act → World → Prop} {Q' : Exit → Act → World → Prop} {w : World} (hc : calmOp o = true) (hw : C w) (h : ∀ a w', C w' → K a → K' a w')
    (ha : o.askedIn F P a C) (hh : o.quietIn F n P a C K) : o.wpIn F n P a w K' Q' := by
  obtain ⟨v, h1, h2⟩ := hh
  have h3 := h1 w hw
  unfold Oper.quietAtIn at h3
  unfold Oper.wpIn
  refine ⟨ha w hw, ?_⟩
  rw [Oper.semAt_plain F _ _ (calm_not hc)]
  revert h3
  cases (execOp a.eval o).run P w with
  | ok x w' =>
    cases x with
    | value u => intro h3; simp only [Oper.quietUponIn] at h3; simp only [Oper.uponIn]; obtain ⟨e1, e2⟩ := h3; rw [e1, e2]; exact h _ _ hw h2
    | skip => intro h3; simp only [Oper.quietUponIn] at h3; simp only [Oper.uponIn]; obtain ⟨e1, e2⟩ := h3; rw [e1, ← e2]; exact h _ _ hw h2
    | enter f args => intro h3; simp only [Oper.quietUponIn] at h3; simp only [Oper.uponIn]; obtain ⟨e1, hd, hcc⟩ := h3; rw [e1]; exact ⟨hd, hcc.mono fun e w'' ⟨he, hw''⟩ => by subst he; exact h _ _ hw'' h2⟩
    | _ => intro h3; simp only [Oper.quietUponIn] at h3
  | halt x w' => intro h3; simp only [Oper.quietUponIn] at h3
theorem quiet_op {i : Nat} {a : Act} {K : Act → Prop} {K' : Act → World → Prop} {Q' : Exit → Act → World → Prop} {w : World} (hcs : ∀ (j : Nat) (o : Oper), ops[j]? = some o → calmOp o = true) (hC : C w) (h : ∀ a w', C w' → K a → K' a w')
    (hh : qOpIn F n P ops C i K a) : wpOpIn F n P ops Q' i K' a w := by
  unfold qOpIn at hh
  unfold wpOpIn
  cases ho : ops[i]? with
  | none => simp only [ho] at hh; exact h _ _ hC hh
  | some o =>
    simp only [ho] at hh
    obtain ⟨ha, hh⟩ := hh
    by_cases hw : Region.wanted o (yielded ops a.tmps) = true
    · simp only [hw, if_true] at hh ⊢; exact quiet_oper (hcs i o ho) hC h ha hh
    · simp only [hw] at hh ⊢; exact ⟨ha w hC, h _ _ hC hh⟩
theorem quiet_any {Q : Act → Prop} {Q' : Exit → Act → World → Prop} (hcs : ∀ (j : Nat) (o : Oper), ops[j]? = some o → calmOp o = true) (hQ : ∀ a w, C w → Q a → Q' .normal a w) : ∀ (fuel : Nat) (listed : Array Bool) (a : Act) (w : World), C w →
    wpAnyQIn F n P md ops C Q fuel listed a → wpAnyIn F n P md ops Q' fuel listed a w
  | 0, _, _, _, hw, h => ⟨h.1, hQ _ _ hw h.2⟩
  | fuel + 1, _, _, _, hw, h => ⟨fun h0 => hQ _ _ hw (h.1 h0), fun i hi => quiet_op hcs hw (fun a' w' hw' => quiet_any hcs hQ fuel _ a' w' hw') (h.2 i hi)⟩
theorem quiet_round {id : Nat} {Q : Exit → Act → World → Prop} {a : Act} {w : World} {l : List Oper} (hcs : l.all calmOp = true) (hm : P.follows .mixedOrders = true) (hB : Region.lexB .any l.toArray = true)
    (h : wpQuietIn F n P l.toArray (fun w' => ∃ k, w' = w.drewN k) (fun a' => ∀ w', (∃ k, w' = w.drewN k) → Q .normal a' w') l a) : (Code.region id l.toArray true).wpIn F n P Q a w := by
  have hcs' : ∀ (j : Nat) (o : Oper), l.toArray[j]? = some o → calmOp o = true := fun j o ho => List.all_eq_true.1 hcs o (by
    have : l[j]? = some o := by simpa using ho
    exact List.mem_of_getElem? this)
  simp only [Region.lexB, Bool.and_eq_true] at hB
  refine wpIn_region_any hm (quiet_any (C := fun w' => ∃ k, w' = w.drewN k) (Q := fun a' => ∀ w', (∃ k, w' = w.drewN k) → Q .normal a' w') hcs' (fun _ w' hw' h => h w' hw') _ _ _ _ ⟨1, rfl⟩ ?_)
  have := wpAnyQIn_lex (F := F) (n := n) (C := fun w' => ∃ k, w' = w.drewN k) (md := .any) hB.1 l 0 (Array.replicate l.toArray.size false) a (by simp) (by simpa using hB.2) h
  simpa using this
end
/-- A range over a function, its frame's temporaries named. -/
theorem range_T {α : Type} {n : Nat} {P : Program} {g : Operand} {ps : Array Tmp} {assign body : Code} {Q : Exit → Act → World → Prop} {T : Array Value} {ds : List Deferred} {w : World}
    (h1 : 1 ≤ n) {gf : Nat} {lb : Array Value} (hg : Act.eval { tmps := T, defers := ds } g = .func (.func gf) #[] lb) (eg : ∀ args w, (callFunc gf args).run P w = .ok (.enter gf args) w)
    {encs : α → Array Value} {Kp : World → World → Prop} {S Sp : List α → Prop} {N : Nat} {w0 : World} (hseq : SeqStopsK Fence.wide (n - 1) P gf lb encs Kp S Sp N w0)
    (hKt : ∀ {A B C : World}, Kp A B → Kp B C → Kp A C) (hKb : ∀ (W : World) (l : Nat) (o o' : Obj), w.heap.size ≤ l → W.heap[l]? = some o → o.isCells = false → o.isWalk = false → Kp W (W.putObj l o')) (hb0 : Below w0.heap.size w0 w) (hps : ∀ x, (encs x).size = ps.size)
    (I : List α → World → Prop) (Ix : Code → List α → World → Prop) (hI : OwnFrom w.heap.size I) (hIx : ∀ c, OwnFrom w.heap.size (Ix c)) (h0 : I [] w) (Ax : Array Value → α → Act → World → Prop) (hAx : ∀ x a', OwnFrom w.heap.size (fun (_ : Unit) W => Ax T x a' W))
    (hassign : ∀ (l : Nat) (pre : List α) (x : α) (W : World) (K : Act → World → Prop), I pre W → (∀ a' W', KeepsFrom w.heap.size W W' → Kp W W' → I pre W' → Ax T x a' W' → K a' W') →
      assign.wpIn (Fence.wide.inRound l) (n - 1 - 1) P (Exit.then K (fun _ _ _ => False)) { tmps := (ps.zip (encs x)).foldl (fun t (p, v) => t.setIfInBounds p v) T, defers := [] } W)
    (hbody : ∀ (l : Nat) (pre : List α) (x : α) (a' : Act) (W : World), w.heap.size ≤ l → (∃ r, W.heap[l]? = some (.loop r)) → I pre W → Ax T x a' W → pre.length < N → body.wpIn (Fence.wide.inRound l) (n - 1 - 1) P (ownPostG w.heap.size Kp I Ix (pre ++ [x]) W) a' W)
    (hdone : ∀ (D : Nat) (xs : List α) (W : World), w.heap.size ≤ D → S xs → I xs W → W.heap[D]? = some (.deferred (some [])) → Q .normal { tmps := T, defers := { target := .collected D, args := #[] } :: ds } W)
    (hstop : ∀ (D : Nat) (c : Code) (pre : List α) (W : World), w.heap.size ≤ D → Sp pre → Ix c pre W → W.heap[D]? = some (.deferred (some [])) → c.wpIn Fence.wide n P Q { tmps := T, defers := { target := .collected D, args := #[] } :: ds } W) :
    (Code.rangeFunc g ps assign body).wpIn Fence.wide n P Q { tmps := T, defers := ds } w :=
  wpIn_rangeFunc_ownH rfl h1 hg trivial eg hseq hKt hKb hb0 hps I Ix hI hIx h0 (Ax T) hAx hassign hbody hdone hstop
end Go.Proofs.Ytlnekfdamdfelaa
