/- Plain facts of layer 8: paths in order, good trees, putting, looking, making; Plain facts of layer 8: stable sorting, and the good tree that is picked out of what was sorted; Layer 8, plain law: how two trees differ. -/
import Derived.Test.YtbhfbdcmamodcaaGreatDoorRows
import Derived.Lib.Bytealg
import Derived.Sort.LotA
set_option linter.unusedVariables false
set_option linter.unusedSimpArgs false
namespace Go.Proofs.YtbhfbdcmamodcaaGreatDoor
namespace TrMath
open Go.Lib
def kB (p : ByteArray) : List UInt8 := p.data.toList
theorem kB_inj {p q : ByteArray} (h : kB p = kB q) : p = q := by
  obtain ⟨⟨l⟩⟩ := p; obtain ⟨⟨m⟩⟩ := q
  simp [kB] at h; subst h; rfl
def ltB (p q : ByteArray) : Bool := decide (kB p < kB q)
theorem ltB_iff {p q : ByteArray} : ltB p q = true ↔ kB p < kB q := by simp [ltB]
theorem ltB_no {p q : ByteArray} : ltB p q = false ↔ ¬ kB p < kB q := by simp [ltB]
theorem ltB_irr (p : ByteArray) : ltB p p = false := by rw [ltB_no]; exact List.lt_irrefl _
theorem ltB_trans {p q r : ByteArray} (h : ltB p q = true) (k : ltB q r = true) : ltB p r = true := by
  rw [ltB_iff] at *; exact List.lt_trans h k
theorem ltB_tri {p q : ByteArray} (h : ltB p q = false) (k : ltB q p = false) : p = q := by
  rw [ltB_no] at *
  rw [List.not_lt] at h k
  exact kB_inj (List.le_antisymm k h)
theorem ltB_asym {p q : ByteArray} (h : ltB p q = true) : ltB q p = false := by
  cases e : ltB q p
  · rfl
  · have := ltB_trans h e; rw [ltB_irr] at this; exact absurd this (by simp)
theorem ltB_ne {p q : ByteArray} (h : ltB p q = true) : p ≠ q := fun e => by rw [e, ltB_irr] at h; exact absurd h (by simp)
theorem cmp_lt : ∀ (a b : List UInt8), (compareBytes a b < 0 ↔ a < b) ∧ (compareBytes a b = 0 ↔ a = b)
  | [], [] => by simp [compareBytes]
  | [], _ :: _ => by simp [compareBytes]
  | _ :: _, [] => by simp [compareBytes]
  | x :: a, y :: b => by
    obtain ⟨h1, h2⟩ := cmp_lt a b
    unfold compareBytes
    rw [List.cons_lt_cons_iff]
    by_cases hx : x < y
    · have : x ≠ y := fun e => by subst e; exact absurd hx (by simp)
      simp [hx, this]
    · by_cases hy : y < x
      · have : x ≠ y := fun e => by subst e; exact absurd hy (by simp)
        simp [hx, hy, this]
      · have e : x = y := by
          have a1 := UInt8.not_lt.1 hx; have a2 := UInt8.not_lt.1 hy
          exact UInt8.le_antisymm a2 a1
        subst e
        simp only [hx, if_false, h1, h2]
        simp
def cmpP (p q : ByteArray) : Int := compareBytes (kB p) (kB q)
theorem cmpP_lt (p q : ByteArray) : cmpP p q < 0 ↔ ltB p q = true := by rw [ltB_iff]; exact (cmp_lt _ _).1
theorem cmpP_eq (p q : ByteArray) : cmpP p q = 0 ↔ p = q := by
  unfold cmpP; rw [(cmp_lt _ _).2]; exact ⟨kB_inj, fun h => by rw [h]⟩
abbrev Ents := List (ByteArray × Int)
def putL : Ents → ByteArray → Int → Ents
  | [], p, v => if v = 0 then [] else [(p, v)]
  | e :: r, p, v => if ltB e.1 p = true then e :: putL r p v else if e.1 = p then (if v = 0 then r else (p, v) :: r) else (if v = 0 then e :: r else (p, v) :: e :: r)
def Asc (l : Ents) : Prop := l.Pairwise fun a b => ltB a.1 b.1 = true
structure Good (l : Ents) : Prop where
  asc : Asc l
  nz : ∀ e ∈ l, e.2 ≠ 0
  short : ∀ e ∈ l, e.1.size ≤ 255
theorem Good.nil : Good [] := ⟨List.Pairwise.nil, fun _ h => by simp at h, fun _ h => by simp at h⟩
theorem putL_mem (p : ByteArray) (v : Int) : ∀ (l : Ents) (e : ByteArray × Int), e ∈ putL l p v → (e = (p, v) ∧ v ≠ 0) ∨ e ∈ l := by
  intro l
  induction l with
  | nil =>
    intro e h
    unfold putL at h
    by_cases hv : v = 0
    · simp [hv] at h
    · simp [hv] at h; exact .inl ⟨h, hv⟩
  | cons x r ih =>
    intro e h
    unfold putL at h
    by_cases h1 : ltB x.1 p = true
    · rw [if_pos h1] at h
      rcases List.mem_cons.1 h with h | h
      · exact .inr (by rw [h]; simp)
      · rcases ih e h with h | h
        · exact .inl h
        · exact .inr (by simp [h])
    · rw [if_neg h1] at h
      by_cases h2 : x.1 = p
      · rw [if_pos h2] at h
        by_cases hv : v = 0
        · rw [if_pos hv] at h; exact .inr (by simp [h])
        · rw [if_neg hv] at h
          rcases List.mem_cons.1 h with h | h
          · exact .inl ⟨h, hv⟩
          · exact .inr (by simp [h])
      · rw [if_neg h2] at h
        by_cases hv : v = 0
        · rw [if_pos hv] at h; exact .inr h
        · rw [if_neg hv] at h
          rcases List.mem_cons.1 h with h | h
          · exact .inl ⟨h, hv⟩
          · exact .inr h
theorem putL_asc (p : ByteArray) (v : Int) : ∀ (l : Ents), Asc l → Asc (putL l p v) := by
  intro l
  induction l with
  | nil => intro _; unfold putL; split <;> simp [Asc]
  | cons x r ih =>
    intro h
    obtain ⟨hx, hr⟩ := List.pairwise_cons.1 h
    unfold putL
    by_cases h1 : ltB x.1 p = true
    · rw [if_pos h1]
      refine List.pairwise_cons.2 ⟨fun e he => ?_, ih hr⟩
      rcases putL_mem p v r e he with ⟨rfl, _⟩ | h
      · exact h1
      · exact hx e h
    · rw [if_neg h1]
      have h1' : ltB x.1 p = false := by simpa using h1
      by_cases h2 : x.1 = p
      · rw [if_pos h2]
        by_cases hv : v = 0
        · rw [if_pos hv]; exact hr
        · rw [if_neg hv]
          exact List.pairwise_cons.2 ⟨fun e he => by show ltB p e.1 = true; rw [← h2]; exact hx e he, hr⟩
      · rw [if_neg h2]
        by_cases hv : v = 0
        · rw [if_pos hv]; exact h
        · rw [if_neg hv]
          have hpx : ltB p x.1 = true := by
            cases e : ltB p x.1
            · exact absurd (ltB_tri h1' e) h2
            · rfl
          refine List.pairwise_cons.2 ⟨fun e he => ?_, h⟩
          rcases List.mem_cons.1 he with rfl | he
          · exact hpx
          · exact ltB_trans hpx (hx e he)
theorem Good.put {l : Ents} (h : Good l) {p : ByteArray} (v : Int) (hp : p.size ≤ 255) : Good (putL l p v) :=
  ⟨putL_asc p v l h.asc, fun e he => by
    rcases putL_mem p v l e he with ⟨rfl, hv⟩ | h1
    · exact hv
    · exact h.nz e h1, fun e he => by
    rcases putL_mem p v l e he with ⟨rfl, _⟩ | h1
    · exact hp
    · exact h.short e h1⟩
end TrMath
end Go.Proofs.YtbhfbdcmamodcaaGreatDoor
namespace Go.Proofs.YtbhfbdcmamodcaaGreatDoor
namespace TrMath
open Go.Sort
def ofP (q : ByteArray) (l : Ents) : Ents := l.filter fun e => decide (e.1 = q)
def Stb (l m : Ents) : Prop := m.length = l.length ∧ ∀ q, ofP q m = ofP q l
theorem Stb.refl (l : Ents) : Stb l l := ⟨rfl, fun _ => rfl⟩
theorem Stb.trans {l m n : Ents} (h : Stb l m) (k : Stb m n) : Stb l n := ⟨k.1.trans h.1, fun q => (k.2 q).trans (h.2 q)⟩
theorem ofP_append (q : ByteArray) (l m : Ents) : ofP q (l ++ m) = ofP q l ++ ofP q m := List.filter_append _ _
theorem Stb.blocks (X U V Y : Ents) (h : ∀ u ∈ U, ∀ v ∈ V, u.1 ≠ v.1) : Stb (X ++ (U ++ (V ++ Y))) (X ++ (V ++ (U ++ Y))) := by
  refine ⟨by simp; omega, fun q => ?_⟩
  rw [ofP_append, ofP_append, ofP_append, ofP_append, ofP_append, ofP_append]
  congr 1
  by_cases hu : ofP q U = []
  · rw [hu]; simp
  · by_cases hv : ofP q V = []
    · rw [hv]; simp
    · exfalso
      obtain ⟨u, hu⟩ := List.exists_mem_of_ne_nil _ hu
      obtain ⟨v, hv⟩ := List.exists_mem_of_ne_nil _ hv
      have h1 := List.mem_filter.1 hu
      have h2 := List.mem_filter.1 hv
      have e1 : u.1 = q := by simpa using h1.2
      have e2 : v.1 = q := by simpa using h2.2
      exact h u h1.1 v h2.1 (e1.trans e2.symm)
end TrMath
end Go.Proofs.YtbhfbdcmamodcaaGreatDoor
namespace Go.Proofs.YtbhfbdcmamodcaaGreatDoor.TrMath
def diffL : Ents → Ents → List (ByteArray × Int × Int)
  | [], [] => []
  | e :: a, [] => (e.1, e.2, 0) :: diffL a []
  | [], f :: b => (f.1, 0, f.2) :: diffL [] b
  | e :: a, f :: b =>
    if ltB e.1 f.1 = true then (e.1, e.2, 0) :: diffL a (f :: b)
    else if ltB f.1 e.1 = true then (f.1, 0, f.2) :: diffL (e :: a) b
    else (if e.2 = f.2 then [] else [(e.1, e.2, f.2)]) ++ diffL a b
termination_by a b => a.length + b.length
theorem diff_len : ∀ (a b : Ents), (diffL a b).length ≤ a.length + b.length := by
  intro a b
  fun_induction diffL a b <;> simp only [List.length_cons, List.length_nil, List.length_append] at * <;> (try split) <;> (try simp only [List.length_cons, List.length_nil]) <;> omega
theorem diff_path (a b : Ents) : ∀ c ∈ diffL a b, (∃ e ∈ a, e.1 = c.1) ∨ (∃ f ∈ b, f.1 = c.1) := by
  fun_induction diffL a b with
  | case1 => intro c h; simp at h
  | case2 e a ih =>
    intro c h
    rcases List.mem_cons.1 h with rfl | h
    · exact .inl ⟨e, by simp, rfl⟩
    · rcases ih c h with ⟨x, hx, k⟩ | ⟨x, hx, k⟩
      · exact .inl ⟨x, by simp [hx], k⟩
      · exact .inr ⟨x, hx, k⟩
  | case3 f b ih =>
    intro c h
    rcases List.mem_cons.1 h with rfl | h
    · exact .inr ⟨f, by simp, rfl⟩
    · rcases ih c h with ⟨x, hx, k⟩ | ⟨x, hx, k⟩
      · exact .inl ⟨x, hx, k⟩
      · exact .inr ⟨x, by simp [hx], k⟩
  | case4 e a f b h1 ih =>
    intro c h
    rcases List.mem_cons.1 h with rfl | h
    · exact .inl ⟨e, by simp, rfl⟩
    · rcases ih c h with ⟨x, hx, k⟩ | ⟨x, hx, k⟩
      · exact .inl ⟨x, by simp [hx], k⟩
      · exact .inr ⟨x, hx, k⟩
  | case5 e a f b h1 h2 ih =>
    intro c h
    rcases List.mem_cons.1 h with rfl | h
    · exact .inr ⟨f, by simp, rfl⟩
    · rcases ih c h with ⟨x, hx, k⟩ | ⟨x, hx, k⟩
      · exact .inl ⟨x, hx, k⟩
      · exact .inr ⟨x, by simp [hx], k⟩
  | case6 e a f b h1 h2 ih =>
    intro c h
    rcases List.mem_append.1 h with h | h
    · split at h
      · simp at h
      · have := List.mem_singleton.1 h
        subst this
        exact .inl ⟨e, by simp, rfl⟩
    · rcases ih c h with ⟨x, hx, k⟩ | ⟨x, hx, k⟩
      · exact .inl ⟨x, by simp [hx], k⟩
      · exact .inr ⟨x, by simp [hx], k⟩
theorem Asc.tail {e : ByteArray × Int} {a : Ents} (h : Asc (e :: a)) : Asc a := (List.pairwise_cons.1 h).2
theorem Asc.over {e : ByteArray × Int} {a : Ents} (h : Asc (e :: a)) : ∀ x ∈ a, ltB e.1 x.1 = true := (List.pairwise_cons.1 h).1
end Go.Proofs.YtbhfbdcmamodcaaGreatDoor.TrMath
