/- WholeLong, plain: ancestry in a graph of numbers, no program in sight; WholeLong, plain: the painter's steps; the walk to an ancestor; WholeLong, plain: a set of numbers as the bits of words; WholeLong, plain: a heap of numbers, by its keys; Plain law of layer 2: numbers as bytes, no program in sight; Plain law of layer 9: what is wrong with a commit; its bytes; Plain law of layer 2: what a reader answers, no program in sight; Plain law of layer 2: numbers of some bytes as a reader reads them; Plain law of layer 1 (CRC-32), no program in sight: turns are linear over exclusive or, a table of eight turns of each byte does what eight turns do, and sums join by turns; Plain law of layer 7: the bytes of a frame; Plain law: numbers of some bytes, there and back; Plain law of layer 13 (bloom), no program in sight: hashes, places, bits; WholeLong, plain: several are added. -/
set_option linter.unusedVariables false
set_option linter.unusedSimpArgs false
namespace Go.Proofs.YtbhfbdcmamodcaaGreatDoor.LgMath
abbrev Gr := List (List Nat)
def par (G : Gr) (c : Nat) : List Nat := G.getD c []
def LowG (G : Gr) : Prop := ∀ c, ∀ p ∈ par G c, p < c
theorem par_none {G : Gr} {c : Nat} (h : G.length ≤ c) : par G c = [] := by
  unfold par
  rw [List.getD_eq_getElem?_getD, List.getElem?_eq_none h]
  rfl
inductive Anc (G : Gr) : Nat → Nat → Prop
  | refl (a : Nat) : Anc G a a
  | tail {a x y : Nat} : Anc G a x → y ∈ par G x → Anc G a y
section
variable {G : Gr} {a b c x y z : Nat}
theorem Anc.le (h : LowG G) (k : Anc G a b) : b ≤ a := by
  induction k with
  | refl => exact Nat.le_refl _
  | tail _ h2 ih => have := h _ _ h2; omega
theorem Anc.trans (h : Anc G a x) (k : Anc G x y) : Anc G a y := by
  induction k with
  | refl => exact h
  | tail _ h2 ih => exact ih.tail h2
theorem Anc.head (h : y ∈ par G a) (k : Anc G y b) : Anc G a b := Anc.trans (Anc.tail (.refl a) h) k
theorem Anc.last (h : Anc G a b) : a = b ∨ ∃ x, Anc G a x ∧ b ∈ par G x := by
  cases h with
  | refl => exact .inl rfl
  | tail h1 h2 => exact .inr ⟨_, h1, h2⟩
theorem Anc.first (h : Anc G a b) : a = b ∨ ∃ y ∈ par G a, Anc G y b := by
  induction h with
  | refl => exact .inl rfl
  | tail h1 h2 ih =>
    rename_i x y
    rcases ih with rfl | ⟨z, hz, hzx⟩
    · exact .inr ⟨_, h2, .refl _⟩
    · exact .inr ⟨z, hz, hzx.tail h2⟩
theorem Anc.lt (h : LowG G) (k : Anc G a b) (hn : a ≠ b) : b < a := by have := k.le h; omega
inductive AncA (G : Gr) (c : Nat) : Nat → Nat → Prop
  | refl (a : Nat) : AncA G c a a
  | tail {a x y : Nat} : AncA G c a x → c ≤ x → y ∈ par G x → AncA G c a y
theorem AncA.mono {c' : Nat} (hc : c' ≤ c) (k : AncA G c a b) : AncA G c' a b := by
  induction k with
  | refl => exact .refl _
  | tail _ h1 h2 ih => exact ih.tail (by omega) h2
theorem ancA_all : AncA G 0 a b ↔ Anc G a b := by
  constructor
  · intro k
    induction k with
    | refl => exact .refl _
    | tail _ _ h2 ih => exact ih.tail h2
  · intro k
    induction k with
    | refl => exact .refl _
    | tail _ h2 ih => exact ih.tail (Nat.zero_le _) h2
theorem AncA.anc (k : AncA G c a b) : Anc G a b := ancA_all.1 (k.mono (Nat.zero_le _))
theorem ancA_start (h : LowG G) (hc : a < c) : AncA G c a b ↔ a = b := by
  constructor
  · intro k
    induction k with
    | refl => rfl
    | tail h0 h1 h2 ih => have := (AncA.anc h0).le h; omega
  · rintro rfl; exact .refl _
theorem ancA_step (h : LowG G) : AncA G c a b ↔ AncA G (c + 1) a b ∨ (AncA G (c + 1) a c ∧ b ∈ par G c) := by
  constructor
  · intro k
    induction k with
    | refl => exact .inl (.refl _)
    | tail h0 h1 h2 ih =>
      rename_i x y
      by_cases hx : x = c
      · subst hx
        rcases ih with ih | ⟨_, ih⟩
        · exact .inr ⟨ih, h2⟩
        · have := h _ _ ih; omega
      · rcases ih with ih | ⟨_, ih⟩
        · exact .inl (ih.tail (by omega) h2)
        · have := h _ _ ih; omega
  · rintro (k | ⟨k1, k2⟩)
    · exact k.mono (Nat.le_succ _)
    · exact (k1.mono (Nat.le_succ _)).tail (Nat.le_refl _) k2
end
open Classical in
noncomputable def ancB (G : Gr) (a b : Nat) : Bool := decide (Anc G a b)
open Classical in
noncomputable def ancAB (G : Gr) (c a b : Nat) : Bool := decide (AncA G c a b)
theorem ancB_iff {G : Gr} {a b : Nat} : ancB G a b = true ↔ Anc G a b := by unfold ancB; exact @decide_eq_true_iff _ (Classical.propDecidable _)
theorem ancAB_iff {G : Gr} {c a b : Nat} : ancAB G c a b = true ↔ AncA G c a b := by unfold ancAB; exact @decide_eq_true_iff _ (Classical.propDecidable _)
theorem ancAB_all {G : Gr} {a b : Nat} : ancAB G 0 a b = ancB G a b := by
  rw [Bool.eq_iff_iff, ancAB_iff, ancB_iff]
  exact ancA_all
theorem ancAB_start {G : Gr} {c a b : Nat} (h : LowG G) (hc : a < c) : ancAB G c a b = decide (a = b) := by
  rw [Bool.eq_iff_iff, ancAB_iff, decide_eq_true_iff]
  exact ancA_start h hc
theorem ancAB_step {G : Gr} {c a b : Nat} (h : LowG G) : ancAB G c a b = (ancAB G (c + 1) a b || (ancAB G (c + 1) a c && decide (b ∈ par G c))) := by
  rw [Bool.eq_iff_iff, ancAB_iff, Bool.or_eq_true, Bool.and_eq_true, ancAB_iff, ancAB_iff, decide_eq_true_iff]
  exact ancA_step h
def Best (G : Gr) (a b y : Nat) : Prop := Anc G a y ∧ Anc G b y ∧ ∀ c, Anc G a c → Anc G b c → y ∉ par G c
open Classical in
noncomputable def bestB (G : Gr) (a b y : Nat) : Bool := decide (Best G a b y)
theorem bestB_iff {G : Gr} {a b y : Nat} : bestB G a b y = true ↔ Best G a b y := by unfold bestB; exact @decide_eq_true_iff _ (Classical.propDecidable _)
theorem Best.above {G : Gr} {a b x y : Nat} (h : Best G a b y) (h1 : Anc G a x) (h2 : Anc G b x) (k : Anc G x y) : x = y := by
  rcases k.last with e | ⟨z, hz, hy⟩
  · exact e
  · exact absurd hy (h.2.2 z (h1.trans hz) (h2.trans hz))

/-! The painter. Paints: of the left one, of the right one, stale. -/
structure Paint where
  l : Bool
  r : Bool
  s : Bool
deriving DecidableEq
def Paint.out (p : Paint) : Paint := ⟨p.l, p.r, p.s || (p.l && p.r)⟩
def Paint.or (p q : Paint) : Paint := ⟨p.l || q.l, p.r || q.r, p.s || q.s⟩
def Paint.none : Paint := ⟨false, false, false⟩
def Paint.any (p : Paint) : Bool := p.l || p.r || p.s
structure Inv (G : Gr) (a b : Nat) (pr : Nat → List Nat) (pt : Nat → Paint) (done : Nat → Bool) (Q : List Nat) : Prop where
  sub : ∀ x, ∀ y ∈ pr x, y ∈ par G x
  dn : ∀ x, pr x ≠ [] → done x = true
  nd : Q.Nodup
  mem : ∀ y, y ∈ Q ↔ (pt y).any = true ∧ done y = false
  low : ∀ x, done x = true → ∀ y ∈ Q, y < x
  pd : ∀ x, done x = true → (pt x).any = true
  bl : ∀ y, (pt y).l = true ↔ y = a ∨ ∃ x, y ∈ pr x ∧ (pt x).l = true
  br : ∀ y, (pt y).r = true ↔ y = b ∨ ∃ x, y ∈ pr x ∧ (pt x).r = true
  bs : ∀ y, (pt y).s = true ↔ ∃ x, y ∈ pr x ∧ (pt x).out.s = true
def Full (G : Gr) (pr : Nat → List Nat) (done : Nat → Bool) : Prop := ∀ x, done x = true → ∀ y ∈ par G x, y ∈ pr x
section
variable {G : Gr} {a b : Nat} {pr : Nat → List Nat} {pt : Nat → Paint} {done : Nat → Bool} {Q : List Nat}
theorem Inv.soundL (hG : LowG G) (h : Inv G a b pr pt done Q) : ∀ n y, G.length ≤ y + n → (pt y).l = true → Anc G a y
  | 0, y, hn, hy => by
    rcases (h.bl y).1 hy with e | ⟨x, hx, _⟩
    · subst e; exact .refl _
    · have h1 := h.sub x y hx
      have h2 := hG x y h1
      rw [par_none (by omega)] at h1
      cases h1
  | n + 1, y, hn, hy => by
    rcases (h.bl y).1 hy with e | ⟨x, hx, hxl⟩
    · subst e; exact .refl _
    · have h1 := h.sub x y hx
      have h2 := hG x y h1
      exact (h.soundL hG n x (by omega) hxl).tail h1
theorem Inv.soundR (hG : LowG G) (h : Inv G a b pr pt done Q) : ∀ n y, G.length ≤ y + n → (pt y).r = true → Anc G b y
  | 0, y, hn, hy => by
    rcases (h.br y).1 hy with e | ⟨x, hx, _⟩
    · subst e; exact .refl _
    · have h1 := h.sub x y hx
      have h2 := hG x y h1
      rw [par_none (by omega)] at h1
      cases h1
  | n + 1, y, hn, hy => by
    rcases (h.br y).1 hy with e | ⟨x, hx, hxl⟩
    · subst e; exact .refl _
    · have h1 := h.sub x y hx
      have h2 := hG x y h1
      exact (h.soundR hG n x (by omega) hxl).tail h1
theorem Inv.sl (hG : LowG G) (h : Inv G a b pr pt done Q) {y : Nat} (hy : (pt y).l = true) : Anc G a y := h.soundL hG G.length y (by omega) hy
theorem Inv.sr (hG : LowG G) (h : Inv G a b pr pt done Q) {y : Nat} (hy : (pt y).r = true) : Anc G b y := h.soundR hG G.length y (by omega) hy
theorem Inv.soundS (hG : LowG G) (h : Inv G a b pr pt done Q) : ∀ n y, G.length ≤ y + n → (pt y).s = true → ∃ x, Anc G a x ∧ Anc G b x ∧ Anc G x y ∧ y < x
  | n, y, hn, hy => by
    obtain ⟨x, hx, hxs⟩ := (h.bs y).1 hy
    have h1 := h.sub x y hx
    have h2 := hG x y h1
    have h3 : x < G.length := Nat.lt_of_not_le fun e => by rw [par_none e] at h1; cases h1
    unfold Paint.out at hxs
    rw [Bool.or_eq_true, Bool.and_eq_true] at hxs
    rcases hxs with hxs | ⟨e1, e2⟩
    · match n, hn with
      | 0, hn => omega
      | n + 1, hn =>
        obtain ⟨z, z1, z2, z3, z4⟩ := h.soundS hG n x (by omega) hxs
        exact ⟨z, z1, z2, z3.tail h1, by omega⟩
    · exact ⟨x, h.sl hG e1, h.sr hG e2, Anc.tail (.refl _) h1, h2⟩
theorem Inv.ss (hG : LowG G) (h : Inv G a b pr pt done Q) {y : Nat} (hy : (pt y).s = true) : ∃ x, Anc G a x ∧ Anc G b x ∧ Anc G x y ∧ y < x := h.soundS hG G.length y (by omega) hy
theorem Inv.roadL (h : Inv G a b pr pt done Q) (hf : Full G pr done) {y : Nat} (k : Anc G a y) : (done y = true ∧ (pt y).l = true) ∨ ∃ z ∈ Q, Anc G z y ∧ (pt z).l = true := by
  have key : ∀ y, (pt y).l = true → (done y = true ∧ (pt y).l = true) ∨ ∃ z ∈ Q, Anc G z y ∧ (pt z).l = true := fun y hy => by
    by_cases hd : done y = true
    · exact .inl ⟨hd, hy⟩
    · refine .inr ⟨y, (h.mem y).2 ⟨?_, by simpa using hd⟩, .refl _, hy⟩
      unfold Paint.any
      rw [hy]; rfl
  induction k with
  | refl => exact key a ((h.bl a).2 (.inl rfl))
  | tail h1 h2 ih =>
    rcases ih with ⟨i1, i2⟩ | ⟨z, z1, z2, z3⟩
    · exact key _ ((h.bl _).2 (.inr ⟨_, hf _ i1 _ h2, i2⟩))
    · exact .inr ⟨z, z1, z2.tail h2, z3⟩
theorem Inv.roadR (h : Inv G a b pr pt done Q) (hf : Full G pr done) {y : Nat} (k : Anc G b y) : (done y = true ∧ (pt y).r = true) ∨ ∃ z ∈ Q, Anc G z y ∧ (pt z).r = true := by
  have key : ∀ y, (pt y).r = true → (done y = true ∧ (pt y).r = true) ∨ ∃ z ∈ Q, Anc G z y ∧ (pt z).r = true := fun y hy => by
    by_cases hd : done y = true
    · exact .inl ⟨hd, hy⟩
    · refine .inr ⟨y, (h.mem y).2 ⟨?_, by simpa using hd⟩, .refl _, hy⟩
      unfold Paint.any
      rw [hy]; simp
  induction k with
  | refl => exact key b ((h.br b).2 (.inl rfl))
  | tail h1 h2 ih =>
    rcases ih with ⟨i1, i2⟩ | ⟨z, z1, z2, z3⟩
    · exact key _ ((h.br _).2 (.inr ⟨_, hf _ i1 _ h2, i2⟩))
    · exact .inr ⟨z, z1, z2.tail h2, z3⟩
theorem Inv.doneL (hG : LowG G) (h : Inv G a b pr pt done Q) (hf : Full G pr done) {y : Nat} (hd : done y = true) (k : Anc G a y) : (pt y).l = true := by
  rcases h.roadL hf k with ⟨_, e⟩ | ⟨z, z1, z2, _⟩
  · exact e
  · have := h.low y hd z z1; have := z2.le hG; omega
theorem Inv.doneR (hG : LowG G) (h : Inv G a b pr pt done Q) (hf : Full G pr done) {y : Nat} (hd : done y = true) (k : Anc G b y) : (pt y).r = true := by
  rcases h.roadR hf k with ⟨_, e⟩ | ⟨z, z1, z2, _⟩
  · exact e
  · have := h.low y hd z z1; have := z2.le hG; omega
theorem Inv.found (hG : LowG G) (h : Inv G a b pr pt done Q) (hf : Full G pr done) {y : Nat} (hd : done y = true) (hp : (pt y).l = true ∧ (pt y).r = true ∧ (pt y).s = false) : Best G a b y := by
  refine ⟨h.sl hG hp.1, h.sr hG hp.2.1, fun c h1 h2 hy => ?_⟩
  have hlt := hG c y hy
  have hcd : done c = true := by
    rcases h.roadL hf h1 with ⟨e, _⟩ | ⟨z, z1, z2, _⟩
    · exact e
    · have := h.low y hd z z1; have := z2.le hG; omega
  have e1 := h.doneL hG hf hcd h1
  have e2 := h.doneR hG hf hcd h2
  have : (pt y).s = true := (h.bs y).2 ⟨c, hf c hcd y hy, by unfold Paint.out; rw [e1, e2]; simp⟩
  rw [hp.2.2] at this
  cases this
theorem Inv.all (hG : LowG G) (h : Inv G a b pr pt done Q) (hf : Full G pr done) (h0 : ∀ z ∈ Q, (pt z).s = true) {y : Nat} (hy : Best G a b y) : done y = true ∧ (pt y).l = true ∧ (pt y).r = true ∧ (pt y).s = false := by
  have hd : done y = true := by
    rcases h.roadL hf hy.1 with ⟨e, _⟩ | ⟨z, z1, z2, _⟩
    · exact e
    · obtain ⟨x, x1, x2, x3, x4⟩ := h.ss hG (h0 z z1)
      have := hy.above x1 x2 (x3.trans z2)
      have := z2.le hG
      omega
  refine ⟨hd, h.doneL hG hf hd hy.1, h.doneR hG hf hd hy.2.1, ?_⟩
  cases hs : (pt y).s with
  | false => rfl
  | true =>
    obtain ⟨x, x1, x2, x3, x4⟩ := h.ss hG hs
    have := hy.above x1 x2 x3
    omega
theorem Inv.perm {Q' : List Nat} (h : Inv G a b pr pt done Q) (hp : Q.Perm Q') : Inv G a b pr pt done Q' :=
  ⟨h.sub, h.dn, hp.nodup_iff.1 h.nd, fun y => by rw [← hp.mem_iff]; exact h.mem y, fun x hx y hy => h.low x hx y (hp.mem_iff.2 hy), h.pd, h.bl, h.br, h.bs⟩
end
end Go.Proofs.YtbhfbdcmamodcaaGreatDoor.LgMath
namespace Go.Proofs.YtbhfbdcmamodcaaGreatDoor.LgMath
def upd {α : Type} (f : Nat → α) (k : Nat) (v : α) : Nat → α := fun x => if x = k then v else f x
theorem upd_same {α : Type} (f : Nat → α) (k : Nat) (v : α) : upd f k v k = v := if_pos rfl
theorem upd_other {α : Type} (f : Nat → α) {k x : Nat} (v : α) (h : x ≠ k) : upd f k v x = f x := if_neg h
def freshN (pt : Nat → Paint) (Q : List Nat) : Nat := (Q.filter fun z => !(pt z).s).length
theorem fresh_perm {pt : Nat → Paint} {Q R : List Nat} (h : Q.Perm R) : freshN pt Q = freshN pt R := (h.filter _).length_eq
theorem fresh_cons (pt : Nat → Paint) (c : Nat) (Q : List Nat) : freshN pt (c :: Q) = (if (pt c).s then 0 else 1) + freshN pt Q := by
  unfold freshN
  rw [List.filter_cons]
  cases (pt c).s <;> simp <;> omega
theorem fresh_upd {pt : Nat → Paint} {c : Nat} {p : Paint} {Q : List Nat} (h : c ∉ Q) : freshN (upd pt c p) Q = freshN pt Q := by
  unfold freshN
  congr 1
  apply List.filter_congr
  intro z hz
  rw [upd_other]
  rintro rfl
  exact h hz
theorem fresh_zero {pt : Nat → Paint} {Q : List Nat} (h : freshN pt Q = 0) : ∀ z ∈ Q, (pt z).s = true := by
  intro z hz
  unfold freshN at h
  rw [List.length_eq_zero_iff, List.filter_eq_nil_iff] at h
  simpa using h z hz
theorem fresh_pos {pt : Nat → Paint} {Q : List Nat} (h : 0 < freshN pt Q) : Q ≠ [] := by
  rintro rfl
  simp [freshN] at h
section
variable {G : Gr} {a b c : Nat} {pr : Nat → List Nat} {pt : Nat → Paint} {done : Nat → Bool} {Q : List Nat}
theorem Inv.undone (h : Inv G a b pr pt done Q) (hd : done c = false) : pr c = [] := by
  cases hp : pr c with
  | nil => rfl
  | cons x r =>
    have := h.dn c (by rw [hp]; simp)
    rw [hd] at this
    cases this
theorem Inv.pop (h : Inv G a b pr pt done (c :: Q)) (hm : ∀ z ∈ Q, z ≤ c) : Inv G a b pr pt (upd done c true) Q ∧ done c = false ∧ (pt c).any = true ∧ (∀ x, upd done c true x = true → c ≤ x) := by
  have hnd := List.nodup_cons.1 h.nd
  have hc := (h.mem c).1 (by simp)
  have hlt : ∀ z ∈ Q, z < c := fun z hz => by
    have h1 := hm z hz
    have h2 : z ≠ c := fun e => hnd.1 (e ▸ hz)
    omega
  refine ⟨⟨h.sub, fun x hx => ?_, hnd.2, fun y => ?_, fun x hx y hy => ?_, fun x hx => ?_, h.bl, h.br, h.bs⟩, hc.2, hc.1, fun x hx => ?_⟩
  · by_cases e : x = c
    · rw [e, upd_same]
    · rw [upd_other _ _ e]; exact h.dn x hx
  · by_cases e : y = c
    · subst e
      rw [upd_same]
      simp [hnd.1]
    · rw [upd_other _ _ e, ← h.mem y, List.mem_cons]
      simp [e]
  · by_cases e : x = c
    · subst e; exact hlt y hy
    · rw [upd_other _ _ e] at hx; exact h.low x hx y (by simp [hy])
  · by_cases e : x = c
    · subst e; exact hc.1
    · rw [upd_other _ _ e] at hx; exact h.pd x hx
  · by_cases e : x = c
    · omega
    · rw [upd_other _ _ e] at hx
      have := h.low x hx c (by simp)
      omega
theorem Inv.add {up : Nat} (hG : LowG G) (h : Inv G a b pr pt done Q) (hc : done c = true) (hmin : ∀ x, done x = true → c ≤ x) (hu : up ∈ par G c) :
    Inv G a b (upd pr c (pr c ++ [up])) (upd pt up ((pt up).or (pt c).out)) done (if (pt up).any then Q else Q ++ [up]) ∧ done up = false := by
  have hlt := hG c up hu
  have hud : done up = false := by
    cases e : done up with
    | false => rfl
    | true => have := hmin up e; omega
  have hne : c ≠ up := by omega
  have hca := h.pd c hc
  have hany : ((pt up).or (pt c).out).any = true := by
    unfold Paint.any Paint.or Paint.out at *
    simp only [Bool.or_eq_true, Bool.and_eq_true] at *
    rcases hca with (e | e) | e <;> simp [e]
  have hkeep : ∀ x, done x = true → upd pt up ((pt up).or (pt c).out) x = pt x := fun x hx => upd_other _ _ fun e => by rw [e, hud] at hx; cases hx
  have hprm : ∀ x y, y ∈ upd pr c (pr c ++ [up]) x ↔ y ∈ pr x ∨ (x = c ∧ y = up) := fun x y => by
    by_cases e : x = c
    · subst e
      rw [upd_same, List.mem_append, List.mem_singleton]
      simp
    · rw [upd_other _ _ e]
      simp [e]
  have hprd : ∀ x y, y ∈ upd pr c (pr c ++ [up]) x → done x = true := fun x y hy => by
    rcases (hprm x y).1 hy with h1 | ⟨h1, _⟩
    · exact h.dn x (fun e => by rw [e] at h1; cases h1)
    · rw [h1]; exact hc
  have gen : ∀ (f : Paint → Bool) (g : Paint → Bool) (i : Nat → Prop), (∀ p q : Paint, f (p.or q.out) = true ↔ f p = true ∨ g q = true) → (∀ y, f (pt y) = true ↔ i y ∨ ∃ x, y ∈ pr x ∧ g (pt x) = true) → ∀ y, f (upd pt up ((pt up).or (pt c).out) y) = true ↔ i y ∨ ∃ x, y ∈ upd pr c (pr c ++ [up]) x ∧ g (upd pt up ((pt up).or (pt c).out) x) = true := fun f g i hfg hb y => by
    have e1 : (∃ x, y ∈ upd pr c (pr c ++ [up]) x ∧ g (upd pt up ((pt up).or (pt c).out) x) = true) ↔ (∃ x, y ∈ pr x ∧ g (pt x) = true) ∨ (y = up ∧ g (pt c) = true) := by
      constructor
      · rintro ⟨x, hx, hg⟩
        rw [hkeep x (hprd x y hx)] at hg
        rcases (hprm x y).1 hx with h1 | ⟨h1, h2⟩
        · exact .inl ⟨x, h1, hg⟩
        · exact .inr ⟨h2, h1 ▸ hg⟩
      · rintro (⟨x, hx, hg⟩ | ⟨h1, hg⟩)
        · have hm := (hprm x y).2 (.inl hx)
          exact ⟨x, hm, by rw [hkeep x (hprd x y hm)]; exact hg⟩
        · have hm := (hprm c y).2 (.inr ⟨rfl, h1⟩)
          exact ⟨c, hm, by rw [hkeep c hc]; exact hg⟩
    rw [e1]
    by_cases e : y = up
    · subst e
      rw [upd_same, hfg, hb]
      constructor
      · rintro ((h1 | h1) | h1)
        · exact .inl h1
        · exact .inr (.inl h1)
        · exact .inr (.inr ⟨rfl, h1⟩)
      · rintro (h1 | h1 | ⟨_, h1⟩)
        · exact .inl (.inl h1)
        · exact .inl (.inr h1)
        · exact .inr h1
    · rw [upd_other _ _ e, hb]
      constructor
      · rintro (h1 | h1)
        · exact .inl h1
        · exact .inr (.inl h1)
      · rintro (h1 | h1 | ⟨h1, _⟩)
        · exact .inl h1
        · exact .inr h1
        · exact absurd h1 e
  have hupQ : (pt up).any = false → up ∉ Q := fun e hm => by have := ((h.mem up).1 hm).1; rw [e] at this; cases this
  refine ⟨⟨fun x y hy => ?_, fun x hx => ?_, ?_, fun y => ?_, fun x hx y hy => ?_, fun x hx => ?_, gen Paint.l Paint.l (· = a) (fun p q => by simp [Paint.or, Paint.out]) h.bl, gen Paint.r Paint.r (· = b) (fun p q => by simp [Paint.or, Paint.out]) h.br, fun y => ?_⟩, hud⟩
  · rcases (hprm x y).1 hy with h1 | ⟨h1, h2⟩
    · exact h.sub x y h1
    · rw [h1, h2]; exact hu
  · obtain ⟨y, hy⟩ := List.exists_mem_of_ne_nil _ hx
    exact hprd x y hy
  · by_cases e : (pt up).any = true
    · rw [if_pos e]; exact h.nd
    · rw [if_neg e, List.nodup_append]
      refine ⟨h.nd, by simp, fun x hx y hy => ?_⟩
      rw [List.mem_singleton.1 hy]
      rintro rfl
      exact hupQ (by simpa using e) hx
  · have e1 : y ∈ (if (pt up).any then Q else Q ++ [up]) ↔ y ∈ Q ∨ y = up := by
      by_cases e : (pt up).any = true
      · rw [if_pos e]
        constructor
        · exact .inl
        · rintro (h1 | rfl)
          · exact h1
          · exact (h.mem _).2 ⟨e, hud⟩
      · rw [if_neg e, List.mem_append, List.mem_singleton]
    rw [e1, h.mem y]
    by_cases e : y = up
    · subst e
      rw [upd_same, hany, hud]
      simp
    · rw [upd_other _ _ e]
      simp [e]
  · have e1 : y ∈ Q ∨ y = up := by
      by_cases e : (pt up).any = true
      · rw [if_pos e] at hy; exact .inl hy
      · rw [if_neg e, List.mem_append, List.mem_singleton] at hy; exact hy
    rcases e1 with h1 | rfl
    · exact h.low x hx y h1
    · have := hmin x hx; omega
  · rw [hkeep x hx]; exact h.pd x hx
  · have := gen Paint.s (fun q => q.out.s) (fun _ => False) (fun p q => by simp [Paint.or]) (fun y => by rw [h.bs y]; simp) y
    rw [this]
    simp
theorem fresh_add {up : Nat} (h : Inv G a b pr pt done Q) (hud : done up = false) (p : Paint) (hs : (pt up).s = true → p.s = true) :
    freshN (upd pt up p) (if (pt up).any then Q else Q ++ [up]) + (if ((pt up).any && !(pt up).s) && p.s then 1 else 0) = freshN pt Q + (if !((pt up).any && !(pt up).s) && !p.s then 1 else 0) := by
  by_cases e : (pt up).any = true
  · rw [if_pos e]
    have hm := (h.mem up).2 ⟨e, hud⟩
    have hp := List.perm_cons_erase hm
    have hnd := List.nodup_cons.1 (hp.nodup_iff.1 h.nd)
    rw [fresh_perm hp, fresh_perm hp, fresh_cons, fresh_cons, upd_same, fresh_upd hnd.1, e]
    cases h1 : (pt up).s <;> cases h2 : p.s <;> simp_all <;> omega
  · have e' : (pt up).any = false := by simpa using e
    have hup : up ∉ Q := fun hm => by have := ((h.mem up).1 hm).1; rw [e'] at this; cases this
    have hp : (Q ++ [up]).Perm (up :: Q) := List.perm_append_singleton up Q
    rw [if_neg e, fresh_perm hp, fresh_cons, upd_same, fresh_upd hup, e']
    cases p.s <;> simp <;> omega
end
/-! The walk to an ancestor: what was seen, what waits. -/
structure Go (G : Gr) (a b : Nat) (gate : Nat → Bool) (seen : Nat → Bool) (Q : List Nat) (ex : Nat → Prop) : Prop where
  start : seen b = true
  sound : ∀ y, seen y = true → Anc G b y
  nd : Q.Nodup
  mem : ∀ y ∈ Q, seen y = true
  past : ∀ y, seen y = true → y ∉ Q → ¬ ex y → y ≠ a ∧ (gate y = true → ∀ p ∈ par G y, seen p = true)
section
variable {G : Gr} {a b c : Nat} {gate seen : Nat → Bool} {Q : List Nat}
theorem Go.none (hgate : ∀ x, Anc G x a → x ≠ a → gate x = true) (h : Go G a b gate seen [] (fun _ => False)) : ¬ Anc G b a := by
  intro k
  have key : ∀ x y, Anc G x y → y = a → seen x = true → False := fun x y hxy hya hx => by
    have gen : ∀ z, Anc G x z → Anc G z a → seen z = true := fun z hz => by
      induction hz with
      | refl => intro _; exact hx
      | tail h1 h2 ih =>
        rename_i u z
        intro hza
        have hua := Anc.head h2 hza
        have hu := ih hua
        obtain ⟨p1, p2⟩ := h.past u hu (by simp) (fun e => e)
        exact p2 (hgate u hua p1) z h2
    subst hya
    exact (h.past _ (gen _ hxy (.refl _)) (by simp) (fun e => e)).1 rfl
  exact key b a k rfl h.start
theorem Go.pop {ex : Nat → Prop} (h : Go G a b gate seen (c :: Q) ex) : Go G a b gate seen Q (fun y => ex y ∨ y = c) :=
  ⟨h.start, h.sound, (List.nodup_cons.1 h.nd).2, fun y hy => h.mem y (by simp [hy]), fun y hy hq he => h.past y hy (fun hm => by
    rcases List.mem_cons.1 hm with e | e
    · exact he (.inr e)
    · exact hq e) (fun e => he (.inl e))⟩
theorem Go.put {ex : Nat → Prop} {y : Nat} (h : Go G a b gate seen Q ex) (hy : Anc G b y) (hn : seen y = false) : Go G a b gate (upd seen y true) (Q ++ [y]) ex := by
  have hyQ : y ∉ Q := fun hm => by have := h.mem y hm; rw [hn] at this; cases this
  have hk : ∀ x, seen x = true → upd seen y true x = true := fun x hx => by
    by_cases e : x = y
    · rw [e, upd_same]
    · rw [upd_other _ _ e]; exact hx
  refine ⟨hk b h.start, fun x hx => ?_, ?_, fun x hx => ?_, fun x hx hq he => ?_⟩
  · by_cases e : x = y
    · rw [e]; exact hy
    · rw [upd_other _ _ e] at hx; exact h.sound x hx
  · rw [List.nodup_append]
    refine ⟨h.nd, by simp, fun u hu v hv => ?_⟩
    rw [List.mem_singleton.1 hv]
    rintro rfl
    exact hyQ hu
  · rcases List.mem_append.1 hx with h1 | h1
    · exact hk x (h.mem x h1)
    · rw [List.mem_singleton.1 h1, upd_same]
  · have hxy : x ≠ y := by rintro rfl; exact hq (by simp)
    rw [upd_other _ _ hxy] at hx
    obtain ⟨p1, p2⟩ := h.past x hx (fun hm => hq (by simp [hm])) he
    exact ⟨p1, fun hg p hp => hk p (p2 hg p hp)⟩
theorem Go.close (h : Go G a b gate seen Q (fun y => False ∨ y = c)) (hc : c ≠ a) (hp : gate c = true → ∀ p ∈ par G c, seen p = true) : Go G a b gate seen Q (fun _ => False) :=
  ⟨h.start, h.sound, h.nd, h.mem, fun y hy hq _ => by
    by_cases e : y = c
    · subst e; exact ⟨hc, hp⟩
    · exact h.past y hy hq (fun he => he.elim (fun f => f) e)⟩
theorem Go.perm {ex : Nat → Prop} {R : List Nat} (h : Go G a b gate seen Q ex) (hp : Q.Perm R) : Go G a b gate seen R ex :=
  ⟨h.start, h.sound, hp.nodup_iff.1 h.nd, fun y hy => h.mem y (hp.mem_iff.2 hy), fun y hy hq => h.past y hy (fun hm => hq (hp.mem_iff.1 hm))⟩
end
end Go.Proofs.YtbhfbdcmamodcaaGreatDoor.LgMath
namespace Go.Proofs.YtbhfbdcmamodcaaGreatDoor.LgMath
def bitW (ws : List Nat) (n : Nat) : Bool := (ws.getD (n / 64) 0).testBit (n % 64)
structure SetW (ws : List Nat) (size : Nat) (f : Nat → Bool) : Prop where
  len : ws.length = (size + 63) / 64
  lt : ∀ i, ws.getD i 0 < 2 ^ 64
  bit : ∀ n, bitW ws n = f n
  ins : ∀ n, f n = true → n < size
theorem getD_set {ws : List Nat} {i j v : Nat} (hi : i < ws.length) : (ws.set i v).getD j 0 = if j = i then v else ws.getD j 0 := by
  rw [List.getD_eq_getElem?_getD, List.getElem?_set, List.getD_eq_getElem?_getD]
  by_cases e : j = i
  · subst e; simp [hi]
  · rw [if_neg e, if_neg (fun h => e h.symm)]
section
variable {ws : List Nat} {size n : Nat} {f : Nat → Bool}
theorem SetW.fresh (size : Nat) : SetW (List.replicate ((size + 63) / 64) 0) size (fun _ => false) := by
  have h0 : ∀ i, (List.replicate ((size + 63) / 64) 0).getD i 0 = 0 := fun i => by
    rw [List.getD_eq_getElem?_getD, List.getElem?_replicate]
    split <;> rfl
  exact ⟨by simp, fun i => by rw [h0]; decide, fun n => by unfold bitW; rw [h0]; simp, by simp⟩
theorem SetW.word (h : SetW ws size f) (hn : n < size) : n / 64 < ws.length := by rw [h.len]; omega
theorem SetW.has (h : SetW ws size f) : (ws.getD (n / 64) 0 / 2 ^ (n % 64)) % 2 = if f n then 1 else 0 := by
  have := h.bit n
  unfold bitW at this
  rw [← this, Nat.testBit_eq_decide_div_mod_eq]
  have h2 : ws.getD (n / 64) 0 / 2 ^ (n % 64) % 2 < 2 := Nat.mod_lt _ (by decide)
  by_cases e : ws.getD (n / 64) 0 / 2 ^ (n % 64) % 2 = 1
  · rw [e]; rfl
  · rw [show ws.getD (n / 64) 0 / 2 ^ (n % 64) % 2 = 0 by omega]; rfl
theorem SetW.put (h : SetW ws size f) (hn : n < size) : SetW (ws.set (n / 64) (ws.getD (n / 64) 0 ||| 2 ^ (n % 64))) size (upd f n true) := by
  have hw := h.word hn
  have hm : n % 64 < 64 := Nat.mod_lt _ (by decide)
  refine ⟨by rw [List.length_set]; exact h.len, fun i => ?_, fun k => ?_, fun k hk => ?_⟩
  · rw [getD_set hw]
    split
    · exact Nat.or_lt_two_pow (h.lt _) (Nat.pow_lt_pow_right (by decide) hm)
    · exact h.lt i
  · unfold bitW
    rw [getD_set hw]
    have hb := h.bit k
    unfold bitW at hb
    by_cases e : k / 64 = n / 64
    · rw [if_pos e, Nat.testBit_or, ← e, hb, Nat.testBit_two_pow]
      by_cases e2 : k = n
      · subst e2
        rw [upd_same]
        simp
      · rw [upd_other _ _ e2]
        have : ¬ n % 64 = k % 64 := by omega
        simp [this]
    · rw [if_neg e, hb, upd_other]
      rintro rfl
      exact e rfl
  · by_cases e : k = n
    · omega
    · rw [upd_other _ _ e] at hk
      exact h.ins k hk
end
theorem low_bit {x t m : Nat} (h : x = 2 ^ t * (2 * m + 1)) : x.testBit t = true ∧ ∀ j, j < t → x.testBit j = false := by
  subst h
  refine ⟨?_, fun j hj => ?_⟩
  · rw [Nat.testBit_two_pow_mul]
    simp
  · rw [Nat.testBit_two_pow_mul]
    simp
    omega
structure Seek (ws : List Nat) (size : Nat) (f : Nat → Bool) (n i w : Nat) : Prop where
  none : ∀ m, n ≤ m → m < 64 * i → f m = false
  lt : w < 2 ^ 64
  ge : n < 64 * (i + 1)
  bits : ∀ j, j < 64 → w.testBit j = (decide (n ≤ 64 * i + j) && f (64 * i + j))
section
variable {ws : List Nat} {size n i w : Nat} {f : Nat → Bool}
theorem Seek.start (h : SetW ws size f) (n : Nat) : Seek ws size f n (n / 64) (ws.getD (n / 64) 0 / 2 ^ (n % 64) * 2 ^ (n % 64)) := by
  have hl := h.lt (n / 64)
  have hle : ws.getD (n / 64) 0 / 2 ^ (n % 64) * 2 ^ (n % 64) ≤ ws.getD (n / 64) 0 := Nat.div_mul_le_self _ _
  refine ⟨fun m h1 h2 => by omega, by omega, by omega, fun j hj => ?_⟩
  have hb := h.bit (64 * (n / 64) + j)
  unfold bitW at hb
  rw [show (64 * (n / 64) + j) / 64 = n / 64 by omega, show (64 * (n / 64) + j) % 64 = j by omega] at hb
  rw [← hb, Nat.mul_comm, Nat.testBit_two_pow_mul]
  by_cases e : n % 64 ≤ j
  · rw [Nat.testBit_div_two_pow]
    rw [show j - n % 64 + n % 64 = j by omega]
    have h1 : n ≤ 64 * (n / 64) + j := by omega
    simp [e, h1]
  · have h1 : ¬ n ≤ 64 * (n / 64) + j := by omega
    simp [e, h1]
theorem Seek.found (h : SetW ws size f) (s : Seek ws size f n i w) {t m : Nat} (ht : t < 64) (hw : w = 2 ^ t * (2 * m + 1)) : n ≤ 64 * i + t ∧ f (64 * i + t) = true ∧ 64 * i + t < size ∧ ∀ k, n ≤ k → k < 64 * i + t → f k = false := by
  obtain ⟨h1, h2⟩ := low_bit hw
  have h3 := s.bits t ht
  rw [h1] at h3
  have h4 : n ≤ 64 * i + t ∧ f (64 * i + t) = true := by simpa using h3.symm
  refine ⟨h4.1, h4.2, h.ins _ h4.2, fun k k1 k2 => ?_⟩
  by_cases e : k < 64 * i
  · exact s.none k k1 e
  · have h5 := s.bits (k - 64 * i) (by omega)
    rw [h2 _ (by omega), show 64 * i + (k - 64 * i) = k by omega] at h5
    simpa [k1] using h5.symm
theorem Seek.next (h : SetW ws size f) (s : Seek ws size f n i 0) : Seek ws size f n (i + 1) (ws.getD (i + 1) 0) := by
  have hg := s.ge
  refine ⟨fun k k1 k2 => ?_, h.lt _, by omega, fun j hj => ?_⟩
  · by_cases e : k < 64 * i
    · exact s.none k k1 e
    · have h5 := s.bits (k - 64 * i) (by omega)
      rw [show 64 * i + (k - 64 * i) = k by omega] at h5
      simpa [k1] using h5.symm
  · have hb := h.bit (64 * (i + 1) + j)
    unfold bitW at hb
    rw [show (64 * (i + 1) + j) / 64 = i + 1 by omega, show (64 * (i + 1) + j) % 64 = j by omega] at hb
    rw [hb]
    have hn : n ≤ 64 * (i + 1) + j := by omega
    simp [hn]
theorem Seek.over (h : SetW ws size f) (s : Seek ws size f n i 0) (hi : i + 1 = ws.length) : ∀ m, n ≤ m → f m = false := fun m hm => by
  by_cases e : m < 64 * i
  · exact s.none m hm e
  · by_cases e2 : m < 64 * (i + 1)
    · have h5 := s.bits (m - 64 * i) (by omega)
      rw [show 64 * i + (m - 64 * i) = m by omega] at h5
      simpa [hm] using h5.symm
    · cases hf : f m with
      | false => rfl
      | true =>
        have h1 := h.ins m hf
        have h2 := h.len
        omega
end
def listF (f : Nat → Bool) (n : Nat) : List Nat := (List.range n).filter f
theorem listF_none {f : Nat → Bool} {n : Nat} : ∀ k, (∀ m, n ≤ m → m < n + k → f m = false) → listF f (n + k) = listF f n
  | 0, _ => rfl
  | k + 1, h => by
    have ih := listF_none (f := f) (n := n) k (fun m h1 h2 => h m h1 (by omega))
    unfold listF at *
    rw [← Nat.add_assoc, List.range_succ, List.filter_append, ih, List.filter_cons, h (n + k) (by omega) (by omega)]
    simp
theorem listF_hit {f : Nat → Bool} {n m : Nat} (hm : n ≤ m) (h : f m = true) (h0 : ∀ k, n ≤ k → k < m → f k = false) : listF f (m + 1) = listF f n ++ [m] := by
  have h1 := listF_none (f := f) (n := n) (m - n) (fun k k1 k2 => h0 k k1 (by omega))
  rw [show n + (m - n) = m by omega] at h1
  unfold listF at *
  rw [List.range_succ, List.filter_append, h1, List.filter_cons, h]
  simp
end Go.Proofs.YtbhfbdcmamodcaaGreatDoor.LgMath
namespace Go.Proofs.YtbhfbdcmamodcaaGreatDoor.LgMath
def HeapF (n : Nat) (key : Nat → Nat) : Prop := ∀ j, 0 < j → j < n → key j ≤ key ((j - 1) / 2)
def UpF (n : Nat) (key : Nat → Nat) (i : Nat) : Prop := (∀ j, 0 < j → j < n → j ≠ i → key j ≤ key ((j - 1) / 2)) ∧ ∀ j, 0 < j → j < n → (j - 1) / 2 = i → 0 < i → key j ≤ key ((i - 1) / 2)
def DnF (n : Nat) (key : Nat → Nat) (i : Nat) : Prop := (∀ j, 0 < j → j < n → (j - 1) / 2 ≠ i → key j ≤ key ((j - 1) / 2)) ∧ ∀ j, 0 < j → j < n → (j - 1) / 2 = i → 0 < i → key j ≤ key ((i - 1) / 2)
def swF (key : Nat → Nat) (i j : Nat) : Nat → Nat := fun k => if k = i then key j else if k = j then key i else key k
section
variable {n i : Nat} {key : Nat → Nat}
theorem heap_max (h : HeapF n key) : ∀ j, j < n → key j ≤ key 0 := by
  intro j
  induction j using Nat.strongRecOn with
  | _ j ih =>
    intro hj
    by_cases e : j = 0
    · rw [e]; exact Nat.le_refl _
    · exact Nat.le_trans (h j (by omega) hj) (ih ((j - 1) / 2) (by omega) (by omega))
theorem up_done (h : UpF n key i) (he : i = 0 ∨ key i ≤ key ((i - 1) / 2)) : HeapF n key := fun j h0 hj => by
  by_cases e : j = i
  · subst e
    rcases he with e | e
    · omega
    · exact e
  · exact h.1 j h0 hj e
theorem up_step (h : UpF n key i) (h0 : 0 < i) (hi : i < n) (hk : key ((i - 1) / 2) ≤ key i) : UpF n (swF key i ((i - 1) / 2)) ((i - 1) / 2) := by
  obtain ⟨u, hu⟩ : ∃ u, (i - 1) / 2 = u := ⟨_, rfl⟩
  rw [hu] at hk ⊢
  have hui : u < i := by omega
  refine ⟨fun j j0 hj hju => ?_, fun j j0 hj hju u0 => ?_⟩
  · unfold swF
    by_cases e1 : j = i
    · subst e1
      rw [if_pos rfl, hu, if_neg (by omega), if_pos rfl]
      exact hk
    · rw [if_neg e1, if_neg hju]
      by_cases e2 : (j - 1) / 2 = i
      · rw [if_pos e2]
        have := h.2 j j0 hj e2 h0
        rw [hu] at this
        exact this
      · rw [if_neg e2]
        have h1 := h.1 j j0 hj e1
        by_cases e3 : (j - 1) / 2 = u
        · rw [if_pos e3]; rw [e3] at h1; omega
        · rw [if_neg e3]; exact h1
  · unfold swF
    rw [if_neg (show ¬ (u - 1) / 2 = i by omega), if_neg (show ¬ (u - 1) / 2 = u by omega)]
    have h2 := h.1 u u0 (by omega) (by omega)
    by_cases e1 : j = i
    · subst e1
      rw [if_pos rfl]
      exact h2
    · rw [if_neg e1, if_neg (show ¬ j = u by omega)]
      have h1 := h.1 j j0 hj e1
      rw [hju] at h1
      omega
theorem up_push {key' : Nat → Nat} (h : HeapF n key) (he : ∀ j, j < n → key' j = key j) : UpF (n + 1) key' n :=
  ⟨fun j h0 hj hn => by rw [he j (by omega), he _ (by omega)]; exact h j h0 (by omega), fun j h0 hj hp => by omega⟩
theorem dn_done (h : DnF n key i) (he : ∀ j, 0 < j → j < n → (j - 1) / 2 = i → key j ≤ key i) : HeapF n key := fun j h0 hj => by
  by_cases e : (j - 1) / 2 = i
  · rw [e]; exact he j h0 hj e
  · exact h.1 j h0 hj e
theorem dn_step {f : Nat} (h : DnF n key i) (f0 : 0 < f) (hf : f < n) (hp : (f - 1) / 2 = i) (hk : key i ≤ key f) (he : ∀ j, 0 < j → j < n → (j - 1) / 2 = i → key j ≤ key f) : DnF n (swF key i f) f := by
  refine ⟨fun j j0 hj hjf => ?_, fun j j0 hj hjf _ => ?_⟩
  · unfold swF
    rw [if_neg hjf]
    by_cases e1 : j = i
    · subst e1
      have hne : ¬ (j - 1) / 2 = j := by omega
      rw [if_pos rfl, if_neg hne]
      exact h.2 f f0 hf hp j0
    · rw [if_neg e1]
      by_cases e2 : j = f
      · rw [if_pos e2, e2, hp, if_pos rfl]; exact hk
      · rw [if_neg e2]
        by_cases e3 : (j - 1) / 2 = i
        · rw [if_pos e3]; exact he j j0 hj e3
        · rw [if_neg e3]; exact h.1 j j0 hj e3
  · unfold swF
    have h1 : ¬ j = i := by omega
    have h2 : ¬ j = f := by omega
    rw [if_neg h1, if_neg h2, hp, if_pos rfl]
    have := h.1 j j0 hj (by omega)
    rw [hjf] at this
    exact this
theorem dn_pop {key' : Nat → Nat} (h : HeapF (n + 1) key) (he : ∀ j, 0 < j → j < n → key' j = key j) : DnF n key' 0 :=
  ⟨fun j h0 hj hn => by rw [he j h0 hj, he _ (by omega) (by omega)]; exact h j h0 (by omega), fun j h0 hj hp h1 => by omega⟩
end
def keyL (l : List (Nat × Nat)) (i : Nat) : Nat := (l.getD i (0, 0)).1
def swapL (l : List (Nat × Nat)) (i j : Nat) : List (Nat × Nat) := (l.set i (l.getD j (0, 0))).set j (l.getD i (0, 0))
theorem swapL_len (l : List (Nat × Nat)) (i j : Nat) : (swapL l i j).length = l.length := by unfold swapL; simp
theorem key_swap {l : List (Nat × Nat)} {i j : Nat} (hi : i < l.length) (hj : j < l.length) : keyL (swapL l i j) = swF (keyL l) i j := by
  funext k
  unfold keyL swapL swF
  simp only [List.getD_eq_getElem?_getD, List.getElem?_set, List.length_set]
  by_cases e1 : k = i
  · subst e1
    rw [if_pos rfl]
    by_cases e2 : j = k
    · subst e2; simp [hj]
    · rw [if_neg e2, if_pos rfl, if_pos hi]; rfl
  · rw [if_neg e1]
    by_cases e2 : k = j
    · subst e2; simp [hj]
    · rw [if_neg e2, if_neg (fun h => e2 h.symm), if_neg (fun h => e1 h.symm)]
theorem swap_perm {l : List (Nat × Nat)} {i j : Nat} (hi : i < l.length) (hj : j < l.length) : (swapL l i j).Perm l := by
  have e1 : l.getD i (0, 0) = l[i] := by rw [List.getD_eq_getElem?_getD, List.getElem?_eq_getElem hi]; rfl
  have e2 : l.getD j (0, 0) = l[j] := by rw [List.getD_eq_getElem?_getD, List.getElem?_eq_getElem hj]; rfl
  unfold swapL
  rw [e1, e2]
  exact List.set_set_perm hi hj
theorem key_mem {l : List (Nat × Nat)} {i : Nat} (hi : i < l.length) : keyL l i ∈ l.map Prod.fst := by
  unfold keyL
  rw [List.getD_eq_getElem?_getD, List.getElem?_eq_getElem hi]
  exact List.mem_map.2 ⟨_, List.getElem_mem hi, rfl⟩
theorem key_of_mem {l : List (Nat × Nat)} {x : Nat} (h : x ∈ l.map Prod.fst) : ∃ i, i < l.length ∧ keyL l i = x := by
  obtain ⟨y, hy, rfl⟩ := List.mem_map.1 h
  obtain ⟨i, hi, rfl⟩ := List.mem_iff_getElem.1 hy
  refine ⟨i, hi, ?_⟩
  unfold keyL
  rw [List.getD_eq_getElem?_getD, List.getElem?_eq_getElem hi]
  rfl
end Go.Proofs.YtbhfbdcmamodcaaGreatDoor.LgMath
namespace Go.Proofs.YtbhfbdcmamodcaaGreatDoor.PackMath
def byteAt (x k : Nat) : UInt8 := UInt8.ofNat (x / 256 ^ k % 256)
def be (x : Nat) : Nat → List UInt8
  | 0 => []
  | n + 1 => byteAt x n :: be x n
theorem be_length (x n : Nat) : (be x n).length = n := by
  induction n with
  | zero => rfl
  | succ n ih => simp [be, ih]
theorem byteAt_toNat (x k : Nat) : (byteAt x k).toNat = x / 256 ^ k % 256 := by
  unfold byteAt
  rw [UInt8.toNat_ofNat']
  omega
def short (x : Nat) : List UInt8 := if x < 128 then [UInt8.ofNat x] else UInt8.ofNat (x % 128 + 128) :: short (x / 128)
termination_by x
decreasing_by omega
end Go.Proofs.YtbhfbdcmamodcaaGreatDoor.PackMath
namespace Go.Proofs.YtbhfbdcmamodcaaGreatDoor.PackMath
def inn (z : Int) : Bool := decide (0 ≤ z ∧ z < 65536)
def memB (z : Int) (zs : List Int) : Bool := decide (z ∈ zs)
theorem inn_yes {z : Int} (h : inn z = true) : 0 ≤ z ∧ z < 65536 := of_decide_eq_true h
def chkGo (pre : List Int) : List Int → Nat
  | [] => 0
  | z :: r => if inn z = false then 1 else if memB z pre = true then 11 else chkGo (pre ++ [z]) r
def checkR (t : Int) (zs : List Int) : Nat := if 16 < zs.length then 5 else if inn t = false then 1 else chkGo [] zs
theorem drop_at (zs : List Int) (k : Nat) (h : k < zs.length) : zs.drop k = zs[k] :: zs.drop (k + 1) := List.drop_eq_getElem_cons h
theorem take_at (zs : List Int) (k : Nat) (h : k < zs.length) : zs.take (k + 1) = zs.take k ++ [zs[k]] := by
  rw [List.take_succ_eq_append_getElem h]
theorem chk_in (zs : List Int) (k : Nat) (h : k < zs.length) (hi : inn zs[k] = false) : chkGo (zs.take k) (zs.drop k) = 1 := by
  rw [drop_at zs k h, chkGo, if_pos hi]
theorem chk_twice (zs : List Int) (k : Nat) (h : k < zs.length) (hi : inn zs[k] = true) (hm : memB zs[k] (zs.take k) = true) : chkGo (zs.take k) (zs.drop k) = 11 := by
  rw [drop_at zs k h, chkGo, if_neg (by rw [hi]; decide), if_pos hm]
theorem chk_on (zs : List Int) (k : Nat) (h : k < zs.length) (hi : inn zs[k] = true) (hm : memB zs[k] (zs.take k) = false) : chkGo (zs.take k) (zs.drop k) = chkGo (zs.take (k + 1)) (zs.drop (k + 1)) := by
  rw [drop_at zs k h, chkGo, if_neg (by rw [hi]; decide), if_neg (by rw [hm]; decide), take_at zs k h]
theorem chk_end (zs : List Int) (k : Nat) (h : zs.length ≤ k) : chkGo (zs.take k) (zs.drop k) = 0 := by
  rw [List.drop_of_length_le h, chkGo]
theorem check_long {t : Int} {zs : List Int} (h : 16 < zs.length) : checkR t zs = 5 := by unfold checkR; rw [if_pos h]
theorem check_tree {t : Int} {zs : List Int} (h : ¬ 16 < zs.length) (h2 : inn t = false) : checkR t zs = 1 := by unfold checkR; rw [if_neg h, if_pos h2]
theorem check_go {t : Int} {zs : List Int} (h : ¬ 16 < zs.length) (h2 : inn t = true) : checkR t zs = chkGo [] zs := by unfold checkR; rw [if_neg h, if_neg (by rw [h2]; decide)]
theorem chkGo_ok (pre zs : List Int) (h : chkGo pre zs = 0) : ∀ z ∈ zs, inn z = true := by
  induction zs generalizing pre with
  | nil => intro z hz; cases hz
  | cons x r ih =>
    intro z hz
    rw [chkGo] at h
    by_cases h1 : inn x = false
    · rw [if_pos h1] at h; cases h
    · rw [if_neg h1] at h
      by_cases h2 : memB x pre = true
      · rw [if_pos h2] at h; cases h
      · rw [if_neg h2] at h
        rcases List.mem_cons.1 hz with rfl | hz
        · simpa using h1
        · exact ih _ h z hz
theorem check_ok {t : Int} {zs : List Int} (h : checkR t zs = 0) : zs.length ≤ 16 ∧ inn t = true ∧ (∀ z ∈ zs, inn z = true) := by
  unfold checkR at h
  by_cases h1 : 16 < zs.length
  · rw [if_pos h1] at h; cases h
  · rw [if_neg h1] at h
    by_cases h2 : inn t = false
    · rw [if_pos h2] at h; cases h
    · rw [if_neg h2] at h
      exact ⟨by omega, by simpa using h2, chkGo_ok _ _ h⟩
def encC (t : Int) (zs : List Int) : List UInt8 := be t.toNat 4 ++ be zs.length 1 ++ zs.flatMap fun z => be z.toNat 4
theorem encC_take (zs : List Int) (k : Nat) (h : k < zs.length) : (zs.take (k + 1)).flatMap (fun z => be z.toNat 4) = (zs.take k).flatMap (fun z => be z.toNat 4) ++ be zs[k].toNat 4 := by
  rw [take_at zs k h, List.flatMap_append]; simp
theorem flat_len (zs : List Int) : (zs.flatMap fun z => be z.toNat 4).length = 4 * zs.length := by
  induction zs with
  | nil => rfl
  | cons x r ih => rw [List.flatMap_cons, List.length_append, ih, be_length, List.length_cons]; omega
end Go.Proofs.YtbhfbdcmamodcaaGreatDoor.PackMath
namespace Go.Proofs.YtbhfbdcmamodcaaGreatDoor.PackMath
def num (l : List UInt8) : Nat := l.foldl (fun v b => v * 256 + b.toNat) 0
end Go.Proofs.YtbhfbdcmamodcaaGreatDoor.PackMath
namespace Go.Proofs.YtbhfbdcmamodcaaGreatDoor.PackMath
theorem take_byte (t : ByteArray) (k : Nat) (h : k < t.size) : t.data.toList.take (k + 1) = t.data.toList.take k ++ [t[k]] := by
  rw [List.take_succ_eq_append_getElem (by simpa using h)]; rfl
end Go.Proofs.YtbhfbdcmamodcaaGreatDoor.PackMath
namespace Go.Proofs.YtbhfbdcmamodcaaGreatDoor.SumMath
def poly : Nat := 3988292384
def ones : Nat := 4294967295
def turn (c : Nat) : Nat := if c % 2 = 1 then (c / 2) ^^^ poly else c / 2
theorem turn_lt {c : Nat} (h : c < 4294967296) : turn c < 4294967296 := by
  unfold turn
  split
  · exact Nat.xor_lt_two_pow (n := 32) (by omega) (by decide)
  · omega
theorem xor_div_two (a b : Nat) : (a ^^^ b) / 2 = a / 2 ^^^ b / 2 := by
  apply Nat.eq_of_testBit_eq
  intro i
  simp only [Nat.testBit_div_two, Nat.testBit_xor]
theorem xor_mod_two (a b : Nat) : (a ^^^ b) % 2 = (a % 2 + b % 2) % 2 := by
  have h := Nat.testBit_xor a b 0
  simp only [Nat.testBit_zero] at h
  have ha : a % 2 = 0 ∨ a % 2 = 1 := by omega
  have hb : b % 2 = 0 ∨ b % 2 = 1 := by omega
  have hx : (a ^^^ b) % 2 = 0 ∨ (a ^^^ b) % 2 = 1 := by omega
  rcases ha with ha | ha <;> rcases hb with hb | hb <;> rcases hx with hx | hx <;> simp [ha, hb, hx] at h ⊢
theorem turn_xor (a b : Nat) : turn (a ^^^ b) = turn a ^^^ turn b := by
  unfold turn
  rw [xor_mod_two, xor_div_two]
  have ha : a % 2 = 0 ∨ a % 2 = 1 := by omega
  have hb : b % 2 = 0 ∨ b % 2 = 1 := by omega
  rcases ha with ha | ha <;> rcases hb with hb | hb <;> simp [ha, hb]
  · rw [Nat.xor_assoc]
  · rw [Nat.xor_assoc, Nat.xor_comm (b / 2) poly, ← Nat.xor_assoc]
  · rw [Nat.xor_assoc, ← Nat.xor_assoc poly, Nat.xor_comm poly (b / 2), Nat.xor_assoc (b / 2), Nat.xor_self, Nat.xor_zero]
def turns : Nat → Nat → Nat
  | 0, c => c
  | k + 1, c => turns k (turn c)
theorem turns_succ' (k c : Nat) : turns (k + 1) c = turn (turns k c) := by
  induction k generalizing c with
  | zero => rfl
  | succ k ih => show turns (k + 1) (turn c) = _; rw [ih]; rfl
theorem turns_lt (k : Nat) {c : Nat} (h : c < 4294967296) : turns k c < 4294967296 := by
  induction k generalizing c with
  | zero => exact h
  | succ k ih => exact ih (turn_lt h)
theorem turns_xor (k a b : Nat) : turns k (a ^^^ b) = turns k a ^^^ turns k b := by
  induction k generalizing a b with
  | zero => rfl
  | succ k ih => show turns k (turn (a ^^^ b)) = _; rw [turn_xor, ih]; rfl
theorem turns_shift (k : Nat) (m : Nat) : turns k (m * 2 ^ k) = m := by
  induction k with
  | zero => simp [turns]
  | succ k ih =>
    show turns k (turn (m * 2 ^ (k + 1))) = m
    have e : m * 2 ^ (k + 1) = 2 * (m * 2 ^ k) := by rw [Nat.pow_succ]; simp [Nat.mul_comm, Nat.mul_left_comm]
    have : turn (m * 2 ^ (k + 1)) = m * 2 ^ k := by
      unfold turn
      rw [e, if_neg (by omega)]
      omega
    rw [this, ih]
theorem split256 (c : Nat) : (c % 256) ^^^ (c / 256 * 2 ^ 8) = c := by
  apply Nat.eq_of_testBit_eq
  intro i
  rw [Nat.testBit_xor, show (256 : Nat) = 2 ^ 8 from rfl, Nat.testBit_mod_two_pow, Nat.testBit_mul_two_pow, Nat.testBit_div_two_pow]
  by_cases h : i < 8
  · simp [h, Nat.not_le.2 h]
  · have h' : 8 ≤ i := by omega
    simp [h, h', Nat.sub_add_cancel h']
theorem byTable (c b : Nat) : turns 8 ((c % 256) ^^^ b) ^^^ c / 256 = turns 8 (c ^^^ b) := by
  have e : c ^^^ b = ((c % 256) ^^^ b) ^^^ (c / 256 * 2 ^ 8) := by
    conv => lhs; rw [← split256 c]
    rw [Nat.xor_assoc, Nat.xor_comm (c / 256 * 2 ^ 8) b, ← Nat.xor_assoc]
  rw [e, turns_xor 8 _ (c / 256 * 2 ^ 8), turns_shift]
def eat (c : Nat) (l : List UInt8) : Nat := l.foldl (fun c b => turns 8 (c ^^^ b.toNat)) c
theorem eat_append (c : Nat) (l m : List UInt8) : eat c (l ++ m) = eat (eat c l) m := List.foldl_append
theorem byte_lt (b : UInt8) : b.toNat < 4294967296 := by have := b.toNat_lt; omega
theorem eat_lt {c : Nat} (h : c < 4294967296) (l : List UInt8) : eat c l < 4294967296 := by
  induction l generalizing c with
  | nil => exact h
  | cons b l ih => exact ih (turns_lt 8 (Nat.xor_lt_two_pow (n := 32) h (byte_lt b)))
theorem eat_snoc (c : Nat) (l : List UInt8) (b : UInt8) : eat c (l ++ [b]) = turns 8 (eat c l ^^^ b.toNat) := by
  rw [eat_append]; rfl
def flip (c : Nat) : Nat := c ^^^ ones
theorem flip_lt {c : Nat} (h : c < 4294967296) : flip c < 4294967296 := Nat.xor_lt_two_pow (n := 32) h (by decide)
theorem flip_zero : flip 0 = ones := by decide
def more (s : Nat) (l : List UInt8) : Nat := flip (eat (flip s) l)
theorem more_lt {s : Nat} (h : s < 4294967296) (l : List UInt8) : more s l < 4294967296 := flip_lt (eat_lt (flip_lt h) l)
def crc (l : List UInt8) : Nat := more 0 l
theorem crc_lt (l : List UInt8) : crc l < 4294967296 := more_lt (by decide) l
theorem crc_eq (l : List UInt8) : crc l = flip (eat ones l) := by unfold crc more; rw [flip_zero]
end Go.Proofs.YtbhfbdcmamodcaaGreatDoor.SumMath
namespace Go.Proofs.YtbhfbdcmamodcaaGreatDoor.FrMath
open PackMath SumMath
def headF (K : Nat) (body : ByteArray) : List UInt8 := be K 1 ++ be body.size 4 ++ body.data.toList
def encF (K : Nat) (body : ByteArray) : List UInt8 := headF K body ++ be (crc (headF K body)) 4
theorem headF_len (K : Nat) (body : ByteArray) : (headF K body).length = body.size + 5 := by
  unfold headF
  rw [List.length_append, List.length_append, be_length, be_length]
  have : body.data.toList.length = body.size := by simp
  omega
theorem encF_len (K : Nat) (body : ByteArray) : (encF K body).length = body.size + 9 := by
  unfold encF
  rw [List.length_append, be_length, headF_len]
def frE (k : Int) (body : ByteArray) : Nat := if k < 1 ∨ 255 < k then 1 else if 1048576 < body.size then 5 else 0
def frS (k : Int) (body : ByteArray) : ByteArray := if frE k body = 0 then ⟨(encF k.toNat body).toArray⟩ else ⟨#[]⟩
theorem fr_kind {k : Int} {body : ByteArray} (h : k < 1 ∨ 255 < k) : frE k body = 1 ∧ frS k body = ⟨#[]⟩ := by
  have e : frE k body = 1 := by unfold frE; rw [if_pos h]
  exact ⟨e, by unfold frS; rw [if_neg (by rw [e]; decide)]⟩
theorem fr_long {k : Int} {body : ByteArray} (h : ¬ (k < 1 ∨ 255 < k)) (h2 : 1048576 < body.size) : frE k body = 5 ∧ frS k body = ⟨#[]⟩ := by
  have e : frE k body = 5 := by unfold frE; rw [if_neg h, if_pos h2]
  exact ⟨e, by unfold frS; rw [if_neg (by rw [e]; decide)]⟩
theorem fr_fine {k : Int} {body : ByteArray} (h : ¬ (k < 1 ∨ 255 < k)) (h2 : ¬ 1048576 < body.size) : frE k body = 0 ∧ frS k body = ⟨(encF k.toNat body).toArray⟩ := by
  have e : frE k body = 0 := by unfold frE; rw [if_neg h, if_neg h2]
  exact ⟨e, by unfold frS; rw [if_pos e]⟩
end Go.Proofs.YtbhfbdcmamodcaaGreatDoor.FrMath
namespace Go.Proofs.YtbhfbdcmamodcaaGreatDoor.PackMath
theorem size_list (s : ByteArray) : s.data.toList.length = s.size := by simp
end Go.Proofs.YtbhfbdcmamodcaaGreatDoor.PackMath
namespace Go.Proofs.YtbhfbdcmamodcaaGreatDoor.BlMath
def mix (h b : Nat) : Nat := (h ^^^ b) * 16777619 % 4294967296
def eatH (h : Nat) (l : List UInt8) : Nat := l.foldl (fun h b => mix h b.toNat) h
theorem mix_lt (h b : Nat) : mix h b < 4294967296 := Nat.mod_lt _ (by decide)
theorem eatH_cons (h : Nat) (b : UInt8) (l : List UInt8) : eatH h (b :: l) = eatH (mix h b.toNat) l := by simp [eatH]
theorem eatH_nil (h : Nat) : eatH h [] = h := by simp [eatH]
theorem eat_inv (P : Nat → Prop) (hP : ∀ h b, P (mix h b)) : ∀ (l : List UInt8) (h : Nat), P h → P (eatH h l)
  | [], h, hh => by rw [eatH_nil]; exact hh
  | b :: l, h, _ => by rw [eatH_cons]; exact eat_inv P hP l _ (hP h b.toNat)
def Fits (h : Nat) : Prop := h < 4294967296
theorem eatH_fits {h : Nat} (hh : Fits h) (l : List UInt8) : Fits (eatH h l) := eat_inv Fits mix_lt l h hh
theorem eatH_lt {h : Nat} (hh : h < 4294967296) (l : List UInt8) : eatH h l < 4294967296 := eatH_fits hh l
theorem eatH_snoc (h : Nat) (l : List UInt8) (b : UInt8) : eatH h (l ++ [b]) = mix (eatH h l) b.toNat := by unfold eatH; rw [List.foldl_append, List.foldl_cons, List.foldl_nil]
def fin1 (h : Nat) : Nat := (h ^^^ h / 65536) * 2246822507 % 4294967296
def fin2 (h : Nat) : Nat := (h ^^^ h / 8192) * 3266489909 % 4294967296
def hashR (seed : Nat) (l : List UInt8) : Nat := fin2 (fin1 (eatH (2166136261 ^^^ seed) l)) ^^^ fin2 (fin1 (eatH (2166136261 ^^^ seed) l)) / 65536
theorem fin1_lt (h : Nat) : fin1 h < 4294967296 := Nat.mod_lt _ (by decide)
theorem fin2_lt (h : Nat) : fin2 h < 4294967296 := Nat.mod_lt _ (by decide)
theorem hashR_lt (seed : Nat) (l : List UInt8) : hashR seed l < 4294967296 :=
  Nat.xor_lt_two_pow (n := 32) (fin2_lt _) (Nat.lt_of_le_of_lt (Nat.div_le_self _ _) (fin2_lt _))
def placeAt (a b n k : Nat) : Nat := (a + k * b) % 4294967296 % n
theorem step_place (a b k : Nat) : ((a + k * b) % 4294967296 + b) % 4294967296 = (a + (k + 1) * b) % 4294967296 := by
  rw [Nat.mod_add_mod, Nat.add_assoc, Nat.succ_mul]
def placesL (H a b n : Nat) : List Nat := (List.range H).map (placeAt a b n)
theorem placesL_length (H a b n : Nat) : (placesL H a b n).length = H := by simp [placesL]
theorem placesL_take (H a b n k : Nat) (hk : k < H) : (placesL H a b n).take (k + 1) = (placesL H a b n).take k ++ [placeAt a b n k] := by
  rw [List.take_succ_eq_append_getElem (by simpa [placesL] using hk)]
  simp [placesL]
theorem placesL_lt {H a b n : Nat} (hn : 0 < n) : ∀ x ∈ placesL H a b n, x < n := by
  intro x hx
  obtain ⟨k, _, rfl⟩ := List.mem_map.1 hx
  exact Nat.mod_lt _ hn
def pl (H seed n : Nat) (p : ByteArray) : List Nat := placesL H (hashR seed p.data.toList) (hashR ((seed + 1) % 4294967296) p.data.toList ||| 1) n
theorem pl_lt {H seed n : Nat} (hn : 0 < n) (p : ByteArray) : ∀ x ∈ pl H seed n p, x < n := placesL_lt hn
theorem pl_length (H seed n : Nat) (p : ByteArray) : (pl H seed n p).length = H := placesL_length _ _ _ _
def numB (g : Nat → Bool) : Nat → Nat
  | 0 => 0
  | n + 1 => numB g n + if g n then 2 ^ n else 0
theorem numB_lt (g : Nat → Bool) (n : Nat) : numB g n < 2 ^ n := by
  induction n with
  | zero => simp [numB]
  | succ n ih => unfold numB; rw [Nat.pow_succ]; split <;> omega
theorem numB_bit (g : Nat → Bool) (n i : Nat) : (numB g n).testBit i = (decide (i < n) && g i) := by
  induction n with
  | zero => simp [numB]
  | succ n ih =>
    unfold numB
    have hl := numB_lt g n
    by_cases hg : g n = true
    · rw [if_pos hg, Nat.add_comm]
      rcases Nat.lt_trichotomy i n with h | h | h
      · rw [Nat.testBit_two_pow_add_gt h, ih]; simp [h, Nat.lt_succ_of_lt h]
      · subst h; rw [Nat.testBit_two_pow_add_eq, Nat.testBit_lt_two_pow hl]; simp [hg]
      · rw [Nat.testBit_lt_two_pow (Nat.lt_of_lt_of_le (by rw [Nat.pow_succ]; omega) (Nat.pow_le_pow_right (by decide) h))]
        have : ¬ i < n + 1 := by omega
        simp [this]
    · rw [if_neg hg, Nat.add_zero, ih]
      rcases Nat.lt_trichotomy i n with h | h | h
      · simp [h, Nat.lt_succ_of_lt h]
      · subst h; simp [hg]
      · have h1 : ¬ i < n + 1 := by omega
        have h2 : ¬ i < n := by omega
        simp [h1, h2]
def byteB (f : Nat → Bool) (j : Nat) : Nat := numB (fun i => f (8 * j + i)) 8
theorem byteB_lt (f : Nat → Bool) (j : Nat) : byteB f j < 256 := numB_lt _ 8
theorem byteB_or (f : Nat → Bool) (x : Nat) : byteB f (x / 8) ||| 2 ^ (x % 8) = byteB (fun i => f i || decide (i = x)) (x / 8) := by
  apply Nat.eq_of_testBit_eq
  intro i
  rw [Nat.testBit_or]
  unfold byteB
  rw [numB_bit, numB_bit, Nat.testBit_two_pow]
  have hx : 8 * (x / 8) + x % 8 = x := Nat.div_add_mod x 8
  by_cases hi : i < 8
  · have e : decide (x % 8 = i) = decide (8 * (x / 8) + i = x) := by
      apply decide_eq_decide.2
      constructor <;> intro h <;> omega
    simp [hi, e]
  · have e : decide (x % 8 = i) = false := by simp; omega
    simp [hi, e]
theorem byteB_other (f : Nat → Bool) (x j : Nat) (h : j ≠ x / 8) : byteB (fun i => f i || decide (i = x)) j = byteB f j := by
  apply Nat.eq_of_testBit_eq
  intro i
  unfold byteB
  rw [numB_bit, numB_bit]
  by_cases hi : i < 8
  · have e : decide (8 * j + i = x) = false := by simp; omega
    simp [hi, e]
  · simp [hi]
theorem byteB_zero (j : Nat) : byteB (fun _ => false) j = 0 := by
  apply Nat.eq_of_testBit_eq
  intro i
  unfold byteB
  rw [numB_bit]
  simp
def bytesB (f : Nat → Bool) (n : Nat) : List UInt8 := (List.range n).map fun j => UInt8.ofNat (byteB f j)
theorem bytesB_length (f : Nat → Bool) (n : Nat) : (bytesB f n).length = n := by simp [bytesB]
theorem bytesB_congr {f g : Nat → Bool} (n : Nat) (h : ∀ i, f i = g i) : bytesB f n = bytesB g n := by
  have : f = g := funext h
  rw [this]
theorem bytesB_set (f : Nat → Bool) (n x : Nat) : (bytesB f n).set (x / 8) (UInt8.ofNat (byteB f (x / 8) ||| 2 ^ (x % 8))) = bytesB (fun i => f i || decide (i = x)) n := by
  apply List.ext_getElem
  · simp [bytesB]
  · intro j h1 h2
    rw [List.getElem_set]
    by_cases e : x / 8 = j
    · subst e; rw [if_pos rfl, byteB_or]; simp [bytesB]
    · rw [if_neg e]; simp only [bytesB, List.getElem_map, List.getElem_range]; rw [byteB_other f x j (Ne.symm e)]
def setF (H seed n : Nat) (l : List ByteArray) (i : Nat) : Bool := l.any fun p => (pl H seed n p).contains i
end Go.Proofs.YtbhfbdcmamodcaaGreatDoor.BlMath
namespace Go.Proofs.YtbhfbdcmamodcaaGreatDoor.LgMath
def addStep (S : (Nat → Bool) × List Nat) (p : Nat) : (Nat → Bool) × List Nat := (upd S.1 p true, if S.1 p then S.2 else S.2 ++ [p])
def addS (S : (Nat → Bool) × List Nat) (ps : List Nat) : (Nat → Bool) × List Nat := ps.foldl addStep S
theorem addS_take (S : (Nat → Bool) × List Nat) (ps : List Nat) {j : Nat} (hj : j < ps.length) : addS S (ps.take (j + 1)) = addStep (addS S (ps.take j)) (ps.getD j 0) := by
  unfold addS
  rw [List.take_succ_eq_append_getElem hj, List.foldl_append, List.getD_eq_getElem?_getD, List.getElem?_eq_getElem hj]
  rfl
theorem addS_len (ps : List Nat) : ∀ S : (Nat → Bool) × List Nat, (addS S ps).2.length ≤ S.2.length + ps.length := by
  induction ps with
  | nil => intro S; simp [addS]
  | cons p r ih =>
    intro S
    have h1 := ih (addStep S p)
    have h2 : (addStep S p).2.length ≤ S.2.length + 1 := by
      unfold addStep
      split <;> simp
    show (addS (addStep S p) r).2.length ≤ _
    rw [List.length_cons]
    omega
theorem addS_seen (ps : List Nat) : ∀ S : (Nat → Bool) × List Nat, ∀ x, (addS S ps).1 x = true ↔ S.1 x = true ∨ x ∈ ps := by
  induction ps with
  | nil => intro S x; simp [addS]
  | cons p r ih =>
    intro S x
    show (addS (addStep S p) r).1 x = true ↔ _
    rw [ih (addStep S p) x]
    unfold addStep upd
    by_cases e : x = p
    · simp [e]
    · simp [e]
theorem Go.adds {G : Gr} {a b : Nat} {gate : Nat → Bool} {ex : Nat → Prop} (ps : List Nat) : ∀ {seen : Nat → Bool} {Q : List Nat}, Go G a b gate seen Q ex → (∀ p ∈ ps, Anc G b p) → Go G a b gate (addS (seen, Q) ps).1 (addS (seen, Q) ps).2 ex := by
  induction ps with
  | nil => intro seen Q h _; exact h
  | cons p r ih =>
    intro seen Q h hp
    show Go G a b gate (addS (addStep (seen, Q) p) r).1 (addS (addStep (seen, Q) p) r).2 ex
    refine ih (seen := (addStep (seen, Q) p).1) (Q := (addStep (seen, Q) p).2) ?_ fun q hq => hp q (by simp [hq])
    unfold addStep
    by_cases e : seen p = true
    · rw [if_pos e]
      have e2 : upd seen p true = seen := by
        funext x
        by_cases e3 : x = p
        · rw [e3, upd_same, e]
        · rw [upd_other _ _ e3]
      show Go G a b gate (upd seen p true) Q ex
      rw [e2]
      exact h
    · rw [if_neg e]
      exact h.put (hp p (by simp)) (by simpa using e)
end Go.Proofs.YtbhfbdcmamodcaaGreatDoor.LgMath
