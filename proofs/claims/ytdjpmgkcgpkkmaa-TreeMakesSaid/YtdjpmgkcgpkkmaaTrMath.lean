/- Plain facts of layer 8: paths in order, good trees, putting, looking, making. -/
import Derived.Test.YtdjpmgkcgpkkmaaRows
import Derived.Lib.Bytealg
import Derived.Sort.LotA
set_option linter.unusedVariables false
set_option linter.unusedSimpArgs false
namespace Go.Proofs.Ytdjpmgkcgpkkmaa
namespace TrMath
open Go.Lib

/-- The bytes of an entry's path. -/
def kB (p : ByteArray) : List UInt8 := p.data.toList
theorem kB_inj {p q : ByteArray} (h : kB p = kB q) : p = q := by
  obtain ⟨⟨l⟩⟩ := p; obtain ⟨⟨m⟩⟩ := q
  simp [kB] at h; subst h; rfl
/-- Less, by bytes. -/
def ltB (p q : ByteArray) : Bool := decide (kB p < kB q)
theorem ltB_iff {p q : ByteArray} : ltB p q = true ↔ kB p < kB q := by simp [ltB]
theorem ltB_no {p q : ByteArray} : ltB p q = false ↔ ¬ kB p < kB q := by simp [ltB]
theorem ltB_irr (p : ByteArray) : ltB p p = false := by rw [ltB_no]; exact List.lt_irrefl _
theorem ltB_trans {p q r : ByteArray} (h : ltB p q = true) (k : ltB q r = true) : ltB p r = true := by
  rw [ltB_iff] at *; exact List.lt_trans h k
theorem ltB_tri {p q : ByteArray} (h : ltB p q = false) (k : ltB q p = false) : p = q := by
  rw [ltB_no] at *
  rw [List.not_lt] at h k
  exact kB_inj (List.le_antisymm k h)
theorem ltB_asym {p q : ByteArray} (h : ltB p q = true) : ltB q p = false := by
  cases e : ltB q p
  · rfl
  · have := ltB_trans h e; rw [ltB_irr] at this; exact absurd this (by simp)
/-- Not less, then less. -/
theorem ltB_le_lt {p q r : ByteArray} (h : ltB q p = false) (k : ltB q r = true) : ltB p r = true := by
  cases e : ltB p q
  · rw [ltB_tri e h]; exact k
  · exact ltB_trans e k
theorem ltB_lt_le {p q r : ByteArray} (h : ltB p q = true) (k : ltB r q = false) : ltB p r = true := by
  cases e : ltB q r
  · rw [← ltB_tri e k]; exact h
  · exact ltB_trans h e
theorem ltB_ntrans {p q r : ByteArray} (h : ltB p q = false) (k : ltB q r = false) : ltB p r = false := by
  cases e : ltB p r
  · rfl
  · have := ltB_le_lt h e; rw [this] at k; exact absurd k (by simp)
theorem ltB_ne {p q : ByteArray} (h : ltB p q = true) : p ≠ q := fun e => by rw [e, ltB_irr] at h; exact absurd h (by simp)

theorem cmp_lt : ∀ (a b : List UInt8), (compareBytes a b < 0 ↔ a < b) ∧ (compareBytes a b = 0 ↔ a = b)
  | [], [] => by simp [compareBytes]
  | [], _ :: _ => by simp [compareBytes]
  | _ :: _, [] => by simp [compareBytes]
  | x :: a, y :: b => by
    obtain ⟨h1, h2⟩ := cmp_lt a b
    unfold compareBytes
    rw [List.cons_lt_cons_iff]
    by_cases hx : x < y
    · have : x ≠ y := fun e => by subst e; exact absurd hx (by simp)
      simp [hx, this]
    · by_cases hy : y < x
      · have : x ≠ y := fun e => by subst e; exact absurd hy (by simp)
        simp [hx, hy, this]
      · have e : x = y := by
          have a1 := UInt8.not_lt.1 hx; have a2 := UInt8.not_lt.1 hy
          exact UInt8.le_antisymm a2 a1
        subst e
        simp only [hx, if_false, h1, h2]
        simp
/-- Comparing, as it is answered. -/
def cmpP (p q : ByteArray) : Int := compareBytes (kB p) (kB q)
theorem cmpP_lt (p q : ByteArray) : cmpP p q < 0 ↔ ltB p q = true := by rw [ltB_iff]; exact (cmp_lt _ _).1
theorem cmpP_eq (p q : ByteArray) : cmpP p q = 0 ↔ p = q := by
  unfold cmpP; rw [(cmp_lt _ _).2]; exact ⟨kB_inj, fun h => by rw [h]⟩

abbrev Ents := List (ByteArray × Int)
/-- One path of a tree, laid. -/
def putL : Ents → ByteArray → Int → Ents
  | [], p, v => if v = 0 then [] else [(p, v)]
  | e :: r, p, v => if ltB e.1 p = true then e :: putL r p v else if e.1 = p then (if v = 0 then r else (p, v) :: r) else (if v = 0 then e :: r else (p, v) :: e :: r)
/-- As both Puts do: a path that is too long is left. -/
def putR (l : Ents) (p : ByteArray) (v : Int) : Ents := if 255 < p.size then l else putL l p v
/-- What stands at a path: the first such entry's. -/
def lookL : Ents → ByteArray → Int
  | [], _ => 0
  | e :: r, p => if e.1 = p then e.2 else lookL r p
/-- Ascending, no two alike. -/
def Asc (l : Ents) : Prop := l.Pairwise fun a b => ltB a.1 b.1 = true
structure Good (l : Ents) : Prop where
  asc : Asc l
  nz : ∀ e ∈ l, e.2 ≠ 0
  short : ∀ e ∈ l, e.1.size ≤ 255
theorem Good.nil : Good [] := ⟨List.Pairwise.nil, fun _ h => by simp at h, fun _ h => by simp at h⟩

theorem putL_split (p : ByteArray) (v : Int) : ∀ (l : Ents) (i : Nat), i ≤ l.length → (∀ j (h : j < l.length), j < i → ltB l[j].1 p = true) → (∀ h : i < l.length, ltB l[i].1 p = false) →
    putL l p v = l.take i ++ ((if v = 0 then [] else [(p, v)]) ++ l.drop (if (∃ h : i < l.length, l[i].1 = p) then i + 1 else i)) := by
  intro l
  induction l with
  | nil =>
    intro i hi _ _
    have : i = 0 := by simpa using hi
    subst this
    simp [putL]
  | cons e r ih =>
    intro i hi h1 h2
    match i, hi, h1, h2 with
    | 0, _, _, h2 =>
      have h0 := h2 (by simp)
      simp only [List.getElem_cons_zero] at h0
      unfold putL
      rw [h0]
      by_cases hp : e.1 = p
      · by_cases hv : v = 0 <;> simp [hp, hv]
      · by_cases hv : v = 0 <;> simp [hp, hv]
    | i + 1, hi, h1, h2 =>
      have h0 := h1 0 (by simp) (by omega)
      simp only [List.getElem_cons_zero] at h0
      unfold putL
      rw [if_pos h0, ih i (by simpa using hi) (fun j h hj => by have := h1 (j + 1) (by simpa using h) (by omega); simpa using this) (fun h => by have := h2 (by simpa using h); simpa using this)]
      simp only [List.take_succ_cons, List.cons_append, List.length_cons]
      have eq : (∃ h : i + 1 < r.length + 1, (e :: r)[i + 1].1 = p) ↔ ∃ h : i < r.length, r[i].1 = p := by
        constructor
        · rintro ⟨h, k⟩; exact ⟨by omega, by simpa using k⟩
        · rintro ⟨h, k⟩; exact ⟨by omega, by simpa using k⟩
      by_cases hc : ∃ h : i < r.length, r[i].1 = p
      · rw [if_pos hc, if_pos (eq.2 hc)]; simp
      · rw [if_neg hc, if_neg (fun h => hc (eq.1 h))]; simp

theorem putL_mem (p : ByteArray) (v : Int) : ∀ (l : Ents) (e : ByteArray × Int), e ∈ putL l p v → (e = (p, v) ∧ v ≠ 0) ∨ e ∈ l := by
  intro l
  induction l with
  | nil =>
    intro e h
    unfold putL at h
    by_cases hv : v = 0
    · simp [hv] at h
    · simp [hv] at h; exact .inl ⟨h, hv⟩
  | cons x r ih =>
    intro e h
    unfold putL at h
    by_cases h1 : ltB x.1 p = true
    · rw [if_pos h1] at h
      rcases List.mem_cons.1 h with h | h
      · exact .inr (by rw [h]; simp)
      · rcases ih e h with h | h
        · exact .inl h
        · exact .inr (by simp [h])
    · rw [if_neg h1] at h
      by_cases h2 : x.1 = p
      · rw [if_pos h2] at h
        by_cases hv : v = 0
        · rw [if_pos hv] at h; exact .inr (by simp [h])
        · rw [if_neg hv] at h
          rcases List.mem_cons.1 h with h | h
          · exact .inl ⟨h, hv⟩
          · exact .inr (by simp [h])
      · rw [if_neg h2] at h
        by_cases hv : v = 0
        · rw [if_pos hv] at h; exact .inr h
        · rw [if_neg hv] at h
          rcases List.mem_cons.1 h with h | h
          · exact .inl ⟨h, hv⟩
          · exact .inr h
theorem putL_asc (p : ByteArray) (v : Int) : ∀ (l : Ents), Asc l → Asc (putL l p v) := by
  intro l
  induction l with
  | nil => intro _; unfold putL; split <;> simp [Asc]
  | cons x r ih =>
    intro h
    obtain ⟨hx, hr⟩ := List.pairwise_cons.1 h
    unfold putL
    by_cases h1 : ltB x.1 p = true
    · rw [if_pos h1]
      refine List.pairwise_cons.2 ⟨fun e he => ?_, ih hr⟩
      rcases putL_mem p v r e he with ⟨rfl, _⟩ | h
      · exact h1
      · exact hx e h
    · rw [if_neg h1]
      have h1' : ltB x.1 p = false := by simpa using h1
      by_cases h2 : x.1 = p
      · rw [if_pos h2]
        by_cases hv : v = 0
        · rw [if_pos hv]; exact hr
        · rw [if_neg hv]
          exact List.pairwise_cons.2 ⟨fun e he => by show ltB p e.1 = true; rw [← h2]; exact hx e he, hr⟩
      · rw [if_neg h2]
        by_cases hv : v = 0
        · rw [if_pos hv]; exact h
        · rw [if_neg hv]
          have hpx : ltB p x.1 = true := by
            cases e : ltB p x.1
            · exact absurd (ltB_tri h1' e) h2
            · rfl
          refine List.pairwise_cons.2 ⟨fun e he => ?_, h⟩
          rcases List.mem_cons.1 he with rfl | he
          · exact hpx
          · exact ltB_trans hpx (hx e he)
theorem putL_len (p : ByteArray) (v : Int) : ∀ (l : Ents), (putL l p v).length ≤ l.length + 1 := by
  intro l
  induction l with
  | nil => unfold putL; split <;> simp
  | cons x r ih =>
    unfold putL
    split
    · simp; exact ih
    · split <;> split <;> simp only [List.length_cons] <;> omega
theorem Good.put {l : Ents} (h : Good l) {p : ByteArray} (v : Int) (hp : p.size ≤ 255) : Good (putL l p v) :=
  ⟨putL_asc p v l h.asc, fun e he => by
    rcases putL_mem p v l e he with ⟨rfl, hv⟩ | h1
    · exact hv
    · exact h.nz e h1, fun e he => by
    rcases putL_mem p v l e he with ⟨rfl, _⟩ | h1
    · exact hp
    · exact h.short e h1⟩
theorem Good.putR {l : Ents} (h : Good l) (p : ByteArray) (v : Int) : Good (putR l p v) := by
  unfold TrMath.putR
  split
  · exact h
  · exact h.put v (by omega)
theorem lookL_no : ∀ (l : Ents) (p : ByteArray), (∀ e ∈ l, e.1 ≠ p) → lookL l p = 0 := by
  intro l
  induction l with
  | nil => intro p _; rfl
  | cons x r ih => intro p h; unfold lookL; rw [if_neg (h x (by simp)), ih p (fun e he => h e (by simp [he]))]
theorem lookL_at : ∀ (l : Ents), Asc l → ∀ i (h : i < l.length), lookL l l[i].1 = l[i].2 := by
  intro l
  induction l with
  | nil => intro _ i h; simp at h
  | cons x r ih =>
    intro ha i h
    obtain ⟨hx, hr⟩ := List.pairwise_cons.1 ha
    match i, h with
    | 0, _ => simp [lookL]
    | i + 1, h =>
      have hi : i < r.length := by simpa using h
      simp only [List.getElem_cons_succ]
      unfold lookL
      rw [if_neg (ltB_ne (hx _ (List.getElem_mem hi)))]
      exact ih hr i hi
theorem look_put (p : ByteArray) (v : Int) : ∀ (l : Ents), Asc l → ∀ q, lookL (putL l p v) q = if q = p then v else lookL l q := by
  intro l
  induction l with
  | nil =>
    intro _ q
    unfold putL
    by_cases hv : v = 0
    · by_cases hq : q = p <;> simp [hv, lookL, hq]
    · by_cases hq : q = p
      · subst hq; simp [hv, lookL]
      · simp [hv, lookL, hq, Ne.symm hq]
  | cons x r ih =>
    intro ha q
    obtain ⟨hx, hr⟩ := List.pairwise_cons.1 ha
    unfold putL
    by_cases h1 : ltB x.1 p = true
    · rw [if_pos h1]
      unfold lookL
      rw [ih hr q]
      by_cases hq : q = p
      · subst hq; rw [if_neg (ltB_ne h1)]; simp
      · simp [hq]
    · rw [if_neg h1]
      have h1' : ltB x.1 p = false := by simpa using h1
      by_cases h2 : x.1 = p
      · rw [if_pos h2]
        by_cases hv : v = 0
        · rw [if_pos hv]
          by_cases hq : q = p
          · subst hq
            rw [if_pos rfl, hv]
            exact lookL_no r q (fun e he => fun k => by have := hx e he; rw [h2, k, ltB_irr] at this; exact absurd this (by simp))
          · rw [if_neg hq]
            conv => rhs; unfold lookL
            rw [if_neg (fun k => hq (by rw [← k, h2]))]
        · rw [if_neg hv]
          by_cases hq : q = p
          · subst hq; simp [lookL]
          · rw [if_neg hq]
            conv => lhs; unfold lookL
            conv => rhs; unfold lookL
            rw [if_neg (fun k => hq k.symm), if_neg (fun k => hq (by rw [← k, h2]))]
      · rw [if_neg h2]
        have hpx : ltB p x.1 = true := by
          cases e : ltB p x.1
          · exact absurd (ltB_tri h1' e) h2
          · rfl
        have hno : lookL (x :: r) p = 0 := lookL_no _ _ (fun e he => fun k => by
          rcases List.mem_cons.1 he with rfl | he
          · exact h2 k
          · have := ltB_trans hpx (hx e he); rw [k, ltB_irr] at this; exact absurd this (by simp))
        by_cases hv : v = 0
        · rw [if_pos hv]
          by_cases hq : q = p
          · subst hq; rw [if_pos rfl, hno, hv]
          · rw [if_neg hq]
        · rw [if_neg hv]
          by_cases hq : q = p
          · subst hq; simp [lookL]
          · rw [if_neg hq]
            conv => lhs; unfold lookL
            rw [if_neg (fun k => hq k.symm)]
/-- A tree is what it answers. -/
theorem asc_ext : ∀ (l m : Ents), Asc l → Asc m → (∀ e ∈ l, e.2 ≠ 0) → (∀ e ∈ m, e.2 ≠ 0) → (∀ q, lookL l q = lookL m q) → l = m := by
  intro l
  induction l with
  | nil =>
    intro m _ hm _ hz h
    cases m with
    | nil => rfl
    | cons y s => exact absurd (by have := h y.1; simpa [lookL] using this.symm) (hz y (by simp))
  | cons x r ih =>
    intro m hl hm hlz hmz h
    cases m with
    | nil => exact absurd (by have := h x.1; simpa [lookL] using this) (hlz x (by simp))
    | cons y s =>
      obtain ⟨hx, hr⟩ := List.pairwise_cons.1 hl
      obtain ⟨hy, hs⟩ := List.pairwise_cons.1 hm
      have nox : ∀ q, ltB q x.1 = true → lookL (x :: r) q = 0 := fun q hq => lookL_no _ _ (fun e he k => by
        rcases List.mem_cons.1 he with rfl | he
        · rw [k, ltB_irr] at hq; exact absurd hq (by simp)
        · have := ltB_trans hq (hx e he); rw [k, ltB_irr] at this; exact absurd this (by simp))
      have noy : ∀ q, ltB q y.1 = true → lookL (y :: s) q = 0 := fun q hq => lookL_no _ _ (fun e he k => by
        rcases List.mem_cons.1 he with rfl | he
        · rw [k, ltB_irr] at hq; exact absurd hq (by simp)
        · have := ltB_trans hq (hy e he); rw [k, ltB_irr] at this; exact absurd this (by simp))
      have hxy : x.1 = y.1 := by
        refine ltB_tri ?_ ?_
        · cases e : ltB x.1 y.1
          · rfl
          · have h1 := h x.1
            rw [noy _ e] at h1
            exact absurd (by simpa [lookL] using h1) (hlz x (by simp))
        · cases e : ltB y.1 x.1
          · rfl
          · have h1 := h y.1
            rw [nox _ e] at h1
            exact absurd (by simpa [lookL] using h1.symm) (hmz y (by simp))
      have hv : x.2 = y.2 := by have h1 := h x.1; rw [lookL, if_pos rfl, lookL, if_pos hxy.symm] at h1; exact h1
      have hxe : x = y := Prod.ext hxy hv
      subst hxe
      congr 1
      refine ih s hr hs (fun e he => hlz e (by simp [he])) (fun e he => hmz e (by simp [he])) (fun q => ?_)
      by_cases hq : x.1 = q
      · subst hq
        rw [lookL_no r _ (fun e he k => by have := hx e he; rw [k, ltB_irr] at this; exact absurd this (by simp)), lookL_no s _ (fun e he k => by have := hy e he; rw [k, ltB_irr] at this; exact absurd this (by simp))]
      · have h1 := h q
        rw [lookL, if_neg hq, lookL, if_neg hq] at h1
        exact h1
/-- Entries laid one after the other. -/
def foldP (t l : Ents) : Ents := l.foldl (fun a e => putR a e.1 e.2) t
theorem foldP_snoc (t l : Ents) (e : ByteArray × Int) : foldP t (l ++ [e]) = putR (foldP t l) e.1 e.2 := by simp [foldP]
theorem foldP_good {t : Ents} (h : Good t) (l : Ents) : Good (foldP t l) := by
  unfold foldP
  induction l generalizing t with
  | nil => exact h
  | cons e r ih => exact ih (h.putR e.1 e.2)
theorem foldP_len (t l : Ents) : (foldP t l).length ≤ t.length + l.length := by
  unfold foldP
  induction l generalizing t with
  | nil => simp
  | cons e r ih =>
    have h1 := ih (t := putR t e.1 e.2)
    have h2 : (putR t e.1 e.2).length ≤ t.length + 1 := by
      unfold putR
      split
      · omega
      · exact putL_len _ _ _
    simp only [List.foldl_cons, List.length_cons]
    omega
end TrMath
end Go.Proofs.Ytdjpmgkcgpkkmaa
