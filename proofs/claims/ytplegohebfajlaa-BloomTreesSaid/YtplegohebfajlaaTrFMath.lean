/- Layer 8, plain law: how two trees differ. -/
import Derived.Test.YtplegohebfajlaaTrMath
set_option linter.unusedVariables false
set_option linter.unusedSimpArgs false
namespace Go.Proofs.Ytplegohebfajlaa.TrMath

/-- How two trees differ: (path, what stood there, what stands there). -/
def diffL : Ents → Ents → List (ByteArray × Int × Int)
  | [], [] => []
  | e :: a, [] => (e.1, e.2, 0) :: diffL a []
  | [], f :: b => (f.1, 0, f.2) :: diffL [] b
  | e :: a, f :: b =>
    if ltB e.1 f.1 = true then (e.1, e.2, 0) :: diffL a (f :: b)
    else if ltB f.1 e.1 = true then (f.1, 0, f.2) :: diffL (e :: a) b
    else (if e.2 = f.2 then [] else [(e.1, e.2, f.2)]) ++ diffL a b
termination_by a b => a.length + b.length
theorem diff_len : ∀ (a b : Ents), (diffL a b).length ≤ a.length + b.length := by
  intro a b
  fun_induction diffL a b <;> simp only [List.length_cons, List.length_nil, List.length_append] at * <;> (try split) <;> (try simp only [List.length_cons, List.length_nil]) <;> omega
/-- A path of a change is a path of one of the two. -/
theorem diff_path (a b : Ents) : ∀ c ∈ diffL a b, (∃ e ∈ a, e.1 = c.1) ∨ (∃ f ∈ b, f.1 = c.1) := by
  fun_induction diffL a b with
  | case1 => intro c h; simp at h
  | case2 e a ih =>
    intro c h
    rcases List.mem_cons.1 h with rfl | h
    · exact .inl ⟨e, by simp, rfl⟩
    · rcases ih c h with ⟨x, hx, k⟩ | ⟨x, hx, k⟩
      · exact .inl ⟨x, by simp [hx], k⟩
      · exact .inr ⟨x, hx, k⟩
  | case3 f b ih =>
    intro c h
    rcases List.mem_cons.1 h with rfl | h
    · exact .inr ⟨f, by simp, rfl⟩
    · rcases ih c h with ⟨x, hx, k⟩ | ⟨x, hx, k⟩
      · exact .inl ⟨x, hx, k⟩
      · exact .inr ⟨x, by simp [hx], k⟩
  | case4 e a f b h1 ih =>
    intro c h
    rcases List.mem_cons.1 h with rfl | h
    · exact .inl ⟨e, by simp, rfl⟩
    · rcases ih c h with ⟨x, hx, k⟩ | ⟨x, hx, k⟩
      · exact .inl ⟨x, by simp [hx], k⟩
      · exact .inr ⟨x, hx, k⟩
  | case5 e a f b h1 h2 ih =>
    intro c h
    rcases List.mem_cons.1 h with rfl | h
    · exact .inr ⟨f, by simp, rfl⟩
    · rcases ih c h with ⟨x, hx, k⟩ | ⟨x, hx, k⟩
      · exact .inl ⟨x, hx, k⟩
      · exact .inr ⟨x, by simp [hx], k⟩
  | case6 e a f b h1 h2 ih =>
    intro c h
    rcases List.mem_append.1 h with h | h
    · split at h
      · simp at h
      · have := List.mem_singleton.1 h
        subst this
        exact .inl ⟨e, by simp, rfl⟩
    · rcases ih c h with ⟨x, hx, k⟩ | ⟨x, hx, k⟩
      · exact .inl ⟨x, by simp [hx], k⟩
      · exact .inr ⟨x, by simp [hx], k⟩
theorem diff_above {a b : Ents} {p : ByteArray} (ha : ∀ e ∈ a, ltB p e.1 = true) (hb : ∀ f ∈ b, ltB p f.1 = true) : ∀ c ∈ diffL a b, ltB p c.1 = true := fun c hc => by
  rcases diff_path a b c hc with ⟨e, he, k⟩ | ⟨f, hf, k⟩
  · rw [← k]; exact ha e he
  · rw [← k]; exact hb f hf
theorem look_low {b : Ents} {p : ByteArray} (hb : ∀ f ∈ b, ltB p f.1 = true) : lookL b p = 0 := lookL_no b p fun e hm k => ltB_ne (hb e hm) k.symm
theorem look_past {e : ByteArray × Int} {a : Ents} {q : ByteArray} (h : ltB e.1 q = true) : lookL (e :: a) q = lookL a q := by
  show (if e.1 = q then e.2 else lookL a q) = _
  rw [if_neg (ltB_ne h)]
theorem look_head (e : ByteArray × Int) (a : Ents) : lookL (e :: a) e.1 = e.2 := by
  show (if e.1 = e.1 then e.2 else lookL a e.1) = _
  rw [if_pos rfl]
theorem Asc.tail {e : ByteArray × Int} {a : Ents} (h : Asc (e :: a)) : Asc a := (List.pairwise_cons.1 h).2
theorem Asc.over {e : ByteArray × Int} {a : Ents} (h : Asc (e :: a)) : ∀ x ∈ a, ltB e.1 x.1 = true := (List.pairwise_cons.1 h).1
theorem over_lt {p : ByteArray} {f : ByteArray × Int} {b : Ents} (h : ltB p f.1 = true) (hb : Asc (f :: b)) : ∀ x ∈ f :: b, ltB p x.1 = true := fun x hx => by
  rcases List.mem_cons.1 hx with rfl | hx
  · exact h
  · exact ltB_trans h (hb.over x hx)
theorem diff_val (a b : Ents) : Asc a → Asc b → ∀ c ∈ diffL a b, c.2.1 = lookL a c.1 ∧ c.2.2 = lookL b c.1 := by
  fun_induction diffL a b with
  | case1 => intro _ _ c h; simp at h
  | case2 e a ih =>
    intro ha hb c h
    rcases List.mem_cons.1 h with rfl | h
    · exact ⟨(look_head e a).symm, rfl⟩
    · have k := ih ha.tail hb c h
      rw [look_past (diff_above ha.over (fun f hf => by simp at hf) c h)]
      exact k
  | case3 f b ih =>
    intro ha hb c h
    rcases List.mem_cons.1 h with rfl | h
    · exact ⟨rfl, (look_head f b).symm⟩
    · have k := ih ha hb.tail c h
      rw [look_past (diff_above (fun f hf => by simp at hf) hb.over c h)]
      exact k
  | case4 e a f b h1 ih =>
    intro ha hb c h
    rcases List.mem_cons.1 h with rfl | h
    · exact ⟨(look_head e a).symm, (look_low (over_lt h1 hb)).symm⟩
    · have k := ih ha.tail hb c h
      rw [look_past (diff_above ha.over (over_lt h1 hb) c h)]
      exact k
  | case5 e a f b h1 h2 ih =>
    intro ha hb c h
    rcases List.mem_cons.1 h with rfl | h
    · exact ⟨(look_low (over_lt h2 ha)).symm, (look_head f b).symm⟩
    · have k := ih ha hb.tail c h
      rw [look_past (diff_above (over_lt h2 ha) hb.over c h)]
      exact k
  | case6 e a f b h1 h2 ih =>
    intro ha hb c h
    have hef : e.1 = f.1 := ltB_tri (by simpa using h1) (by simpa using h2)
    rcases List.mem_append.1 h with h | h
    · split at h
      · simp at h
      · have := List.mem_singleton.1 h
        subst this
        exact ⟨(look_head e a).symm, by show f.2 = lookL (f :: b) e.1; rw [hef, look_head]⟩
    · have k := ih ha.tail hb.tail c h
      have hab := diff_above ha.over (fun x hx => by rw [hef]; exact hb.over x hx) c h
      rw [look_past hab, look_past (by rw [← hef]; exact hab)]
      exact k
theorem diff_asc (a b : Ents) : Asc a → Asc b → (diffL a b).Pairwise fun c d => ltB c.1 d.1 = true := by
  fun_induction diffL a b with
  | case1 => intro _ _; exact .nil
  | case2 e a ih => intro ha hb; exact List.pairwise_cons.2 ⟨diff_above ha.over (fun f hf => by simp at hf), ih ha.tail hb⟩
  | case3 f b ih => intro ha hb; exact List.pairwise_cons.2 ⟨diff_above (fun f hf => by simp at hf) hb.over, ih ha hb.tail⟩
  | case4 e a f b h1 ih => intro ha hb; exact List.pairwise_cons.2 ⟨diff_above ha.over (over_lt h1 hb), ih ha.tail hb⟩
  | case5 e a f b h1 h2 ih => intro ha hb; exact List.pairwise_cons.2 ⟨diff_above (over_lt h2 ha) hb.over, ih ha hb.tail⟩
  | case6 e a f b h1 h2 ih =>
    intro ha hb
    have hef : e.1 = f.1 := ltB_tri (by simpa using h1) (by simpa using h2)
    have k := ih ha.tail hb.tail
    split
    · exact k
    · exact List.pairwise_cons.2 ⟨diff_above ha.over (fun x hx => by rw [hef]; exact hb.over x hx), k⟩
theorem diff_ne (a b : Ents) : (∀ e ∈ a, e.2 ≠ 0) → (∀ f ∈ b, f.2 ≠ 0) → ∀ c ∈ diffL a b, c.2.1 ≠ c.2.2 := by
  fun_induction diffL a b with
  | case1 => intro _ _ c h; simp at h
  | case2 e a ih =>
    intro ha hb c h
    rcases List.mem_cons.1 h with rfl | h
    · exact ha e (by simp)
    · exact ih (fun x hx => ha x (by simp [hx])) hb c h
  | case3 f b ih =>
    intro ha hb c h
    rcases List.mem_cons.1 h with rfl | h
    · exact (hb f (by simp)).symm
    · exact ih ha (fun x hx => hb x (by simp [hx])) c h
  | case4 e a f b h1 ih =>
    intro ha hb c h
    rcases List.mem_cons.1 h with rfl | h
    · exact ha e (by simp)
    · exact ih (fun x hx => ha x (by simp [hx])) hb c h
  | case5 e a f b h1 h2 ih =>
    intro ha hb c h
    rcases List.mem_cons.1 h with rfl | h
    · exact (hb f (by simp)).symm
    · exact ih ha (fun x hx => hb x (by simp [hx])) c h
  | case6 e a f b h1 h2 ih =>
    intro ha hb c h
    rcases List.mem_append.1 h with h | h
    · split at h
      · simp at h
      · rename_i hne
        have := List.mem_singleton.1 h
        subst this
        exact hne
    · exact ih (fun x hx => ha x (by simp [hx])) (fun x hx => hb x (by simp [hx])) c h
theorem look_eq_cons {e f : ByteArray × Int} {a b : Ents} {q : ByteArray} (h : e.1 = f.1) (hv : q = e.1 → e.2 = f.2) (ht : q ≠ e.1 → lookL a q = lookL b q) : lookL (e :: a) q = lookL (f :: b) q := by
  show (if e.1 = q then e.2 else lookL a q) = (if f.1 = q then f.2 else lookL b q)
  rw [← h]
  by_cases k : e.1 = q
  · rw [if_pos k, if_pos k]; exact hv k.symm
  · rw [if_neg k, if_neg k]; exact ht (fun e => k e.symm)
/-- Where no change is, the two are alike. -/
theorem diff_none (a b : Ents) : Asc a → Asc b → ∀ q, (∀ c ∈ diffL a b, c.1 ≠ q) → lookL a q = lookL b q := by
  fun_induction diffL a b with
  | case1 => intro _ _ q _; rfl
  | case2 e a ih =>
    intro ha hb q h
    have hq : e.1 ≠ q := h _ (List.mem_cons_self ..)
    show (if e.1 = q then e.2 else lookL a q) = _
    rw [if_neg hq]
    exact ih ha.tail hb q (fun c hc => h c (by simp [hc]))
  | case3 f b ih =>
    intro ha hb q h
    have hq : f.1 ≠ q := h _ (List.mem_cons_self ..)
    show _ = (if f.1 = q then f.2 else lookL b q)
    rw [if_neg hq]
    exact ih ha hb.tail q (fun c hc => h c (by simp [hc]))
  | case4 e a f b h1 ih =>
    intro ha hb q h
    have hq : e.1 ≠ q := h _ (List.mem_cons_self ..)
    show (if e.1 = q then e.2 else lookL a q) = _
    rw [if_neg hq]
    exact ih ha.tail hb q (fun c hc => h c (by simp [hc]))
  | case5 e a f b h1 h2 ih =>
    intro ha hb q h
    have hq : f.1 ≠ q := h _ (List.mem_cons_self ..)
    show _ = (if f.1 = q then f.2 else lookL b q)
    rw [if_neg hq]
    exact ih ha hb.tail q (fun c hc => h c (by simp [hc]))
  | case6 e a f b h1 h2 ih =>
    intro ha hb q h
    have hef : e.1 = f.1 := ltB_tri (by simpa using h1) (by simpa using h2)
    refine look_eq_cons hef (fun k => ?_) (fun k => ih ha.tail hb.tail q (fun c hc => h c (List.mem_append.2 (.inr hc))))
    by_cases hv : e.2 = f.2
    · exact hv
    · exact absurd k.symm (h (e.1, e.2, f.2) (by rw [if_neg hv]; simp))
theorem putR_look {T : Ents} (hT : Good T) {p : ByteArray} (hp : p.size ≤ 255) (u : Int) (q : ByteArray) : lookL (putR T p u) q = if q = p then u else lookL T q := by
  unfold putR
  rw [if_neg (by omega)]
  exact look_put p u T hT.asc q
/-- The changes as puts. -/
def asPuts (l : List (ByteArray × Int × Int)) : Ents := l.map fun c => (c.1, c.2.2)
theorem patch_off {T : Ents} (hT : Good T) (l : List (ByteArray × Int × Int)) : (∀ c ∈ l, c.1.size ≤ 255) → ∀ q, (∀ c ∈ l, c.1 ≠ q) → lookL (foldP T (asPuts l)) q = lookL T q := by
  induction l generalizing T with
  | nil => intro _ q _; rfl
  | cons c r ih =>
    intro hs q h
    show lookL (foldP (putR T c.1 c.2.2) (asPuts r)) q = _
    rw [ih (hT.putR _ _) (fun x hx => hs x (by simp [hx])) q (fun x hx => h x (by simp [hx])), putR_look hT (hs c (by simp)), if_neg (fun k => h c (by simp) k.symm)]
theorem patch_on {T : Ents} (hT : Good T) (l : List (ByteArray × Int × Int)) : (∀ c ∈ l, c.1.size ≤ 255) → (l.Pairwise fun c d => ltB c.1 d.1 = true) → ∀ c ∈ l, lookL (foldP T (asPuts l)) c.1 = c.2.2 := by
  induction l generalizing T with
  | nil => intro _ _ c h; simp at h
  | cons d r ih =>
    intro hs hp c h
    obtain ⟨h1, h2⟩ := List.pairwise_cons.1 hp
    show lookL (foldP (putR T d.1 d.2.2) (asPuts r)) c.1 = _
    rcases List.mem_cons.1 h with rfl | h
    · rw [patch_off (hT.putR _ _) r (fun x hx => hs x (by simp [hx])) c.1 (fun x hx k => ltB_ne (h1 x hx) k.symm), putR_look hT (hs c (by simp)), if_pos rfl]
    · exact ih (hT.putR _ _) (fun x hx => hs x (by simp [hx])) h2 c h
/-- The one is made of the other. -/
theorem patch_diff {a b : Ents} (ha : Good a) (hb : Good b) : foldP a (asPuts (diffL a b)) = b := by
  have hs : ∀ c ∈ diffL a b, c.1.size ≤ 255 := fun c hc => by
    rcases diff_path a b c hc with ⟨e, he, k⟩ | ⟨f, hf, k⟩
    · rw [← k]; exact ha.short e he
    · rw [← k]; exact hb.short f hf
  have hg := foldP_good ha (asPuts (diffL a b))
  refine asc_ext _ _ hg.asc hb.asc hg.nz hb.nz (fun q => ?_)
  by_cases h : ∃ c ∈ diffL a b, c.1 = q
  · obtain ⟨c, hc, rfl⟩ := h
    rw [patch_on ha _ hs (diff_asc a b ha.asc hb.asc) c hc]
    exact (diff_val a b ha.asc hb.asc c hc).2
  · have h' : ∀ c ∈ diffL a b, c.1 ≠ q := fun c hc k => h ⟨c, hc, k⟩
    rw [patch_off ha _ hs q h']
    exact diff_none a b ha.asc hb.asc q h'
theorem diff_self (a : Ents) : diffL a a = [] := by
  induction a with
  | nil => unfold diffL; rfl
  | cons e r ih =>
    unfold diffL
    rw [if_neg (by rw [ltB_irr]; simp), if_neg (by rw [ltB_irr]; simp), if_pos rfl, ih]
    rfl
theorem diff_nil {a b : Ents} (ha : Good a) (hb : Good b) : diffL a b = [] ↔ a = b :=
  ⟨fun h => by have := patch_diff ha hb; rw [h] at this; exact this, fun h => by rw [h]; exact diff_self b⟩
end Go.Proofs.Ytplegohebfajlaa.TrMath
