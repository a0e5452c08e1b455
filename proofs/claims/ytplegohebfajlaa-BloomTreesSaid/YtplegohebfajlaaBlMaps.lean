/- Plain law of layer 13: sets of paths, as a map reads; the filter of some paths. -/
import Derived.Test.YtplegohebfajlaaBlW4
import Derived.Maps.Own
import Derived.Maps.OwnSet
import Derived.Maps.RangeWalk
import Derived.StringKeys
set_option linter.unusedVariables false
set_option linter.unusedSimpArgs false
namespace Go.Proofs.Ytplegohebfajlaa
open Go.RowKit BlMath Go.Maps

def keyS (s : ByteArray) : Lit := .string s.data.toList
theorem keyS_key (s : ByteArray) : WideAt.IsKeyLit (keyS s) := True.intro
theorem keyS_inj {s t : ByteArray} (h : keyS s = keyS t) : s = t := by
  unfold keyS at h
  have h1 : s.data.toList = t.data.toList := by simpa using h
  have h2 := Array.toList_inj.1 h1
  cases s; cases t; cases h2; rfl
theorem keys_key (l : List ByteArray) : ∀ x ∈ l.map keyS, WideAt.IsKeyLit x := by
  intro x hx
  obtain ⟨s, _, rfl⟩ := List.mem_map.1 hx
  exact keyS_key s
theorem ba_list {s t : ByteArray} (h : s.data.toList = t.data.toList) : s = t := by
  have h2 := Array.toList_inj.1 h
  cases s; cases t; cases h2; rfl
theorem any_mem {acc : List ByteArray} {x : ByteArray} : acc.any (fun y => y.data.toList == x.data.toList) = true ↔ x ∈ acc := by
  rw [List.any_eq_true]
  constructor
  · rintro ⟨y, hy, h⟩; exact ba_list (by simpa using h) ▸ hy
  · intro h; exact ⟨x, h, by simp⟩
/-- The unlike ones, as they come. -/
def addP (acc : List ByteArray) (x : ByteArray) : List ByteArray := if acc.any (fun y => y.data.toList == x.data.toList) = true then acc else acc ++ [x]
theorem addP_in {acc : List ByteArray} {x : ByteArray} (h : x ∈ acc) : addP acc x = acc := by unfold addP; rw [if_pos (any_mem.2 h)]
theorem addP_out {acc : List ByteArray} {x : ByteArray} (h : ¬ x ∈ acc) : addP acc x = acc ++ [x] := by unfold addP; rw [if_neg (fun e => h (any_mem.1 e))]
def uniq (l : List ByteArray) : List ByteArray := l.foldl addP []
theorem addKey_map (acc : List ByteArray) (x : ByteArray) : addKey (acc.map keyS) (keyS x) = (addP acc x).map keyS := by
  unfold addKey
  by_cases h : x ∈ acc
  · rw [addP_in h, if_pos]
    exact List.any_eq_true.2 ⟨keyS x, List.mem_map.2 ⟨x, h, rfl⟩, WideAt.sameKey_self (keyS_key x)⟩
  · rw [addP_out h, if_neg]
    · simp
    · intro h2
      obtain ⟨y, hy, hs⟩ := List.any_eq_true.1 h2
      obtain ⟨z, hz, rfl⟩ := List.mem_map.1 hy
      exact h (keyS_inj (WideAt.sameKey_eq hs) ▸ hz)
theorem fold_map : ∀ (l acc : List ByteArray), (l.map keyS).foldl addKey (acc.map keyS) = (l.foldl addP acc).map keyS
  | [], acc => rfl
  | x :: r, acc => by rw [List.map_cons, List.foldl_cons, List.foldl_cons, addKey_map, fold_map r]
theorem size_uniq {H : Type} (u : DataW H) (l : List ByteArray) : Maps.size (setOf u (l.map keyS)) = (uniq l).length := by
  rw [size_setOf u _ (keys_key l), show ([] : List Lit) = ([] : List ByteArray).map keyS from rfl, fold_map, List.length_map]
  rfl
theorem has_set {H : Type} (u : DataW H) (l : List ByteArray) (kl : Lit) : Maps.has (setOf u (l.map keyS)) kl = true ↔ ∃ p ∈ l, kl = keyS p := by
  rw [has_setOf u kl _ (keys_key l), List.any_eq_true]
  constructor
  · rintro ⟨y, hy, hs⟩
    obtain ⟨p, hp, rfl⟩ := List.mem_map.1 hy
    exact ⟨p, hp, (WideAt.sameKey_eq hs).symm⟩
  · rintro ⟨p, hp, rfl⟩
    exact ⟨keyS p, List.mem_map.2 ⟨p, hp, rfl⟩, WideAt.sameKey_self (keyS_key p)⟩
theorem mem_fold : ∀ (l acc : List ByteArray) (p : ByteArray), p ∈ l.foldl addP acc ↔ p ∈ acc ∨ p ∈ l
  | [], acc, p => by simp
  | x :: r, acc, p => by
    rw [List.foldl_cons, mem_fold r]
    by_cases h : x ∈ acc
    · rw [addP_in h]
      constructor
      · rintro (h1 | h1)
        · exact .inl h1
        · exact .inr (List.mem_cons_of_mem _ h1)
      · rintro (h1 | h1)
        · exact .inl h1
        · rcases List.mem_cons.1 h1 with rfl | h2
          · exact .inl h
          · exact .inr h2
    · rw [addP_out h]
      simp [or_assoc]
theorem mem_uniq (l : List ByteArray) (p : ByteArray) : p ∈ uniq l ↔ p ∈ l := by unfold uniq; rw [mem_fold]; simp
theorem fold_len : ∀ (l acc : List ByteArray), acc.length ≤ (l.foldl addP acc).length ∧ (l.foldl addP acc).length ≤ acc.length + l.length
  | [], acc => by simp
  | x :: r, acc => by
    rw [List.foldl_cons, List.length_cons]
    have := fold_len r (addP acc x)
    by_cases h : x ∈ acc
    · rw [addP_in h] at this ⊢; omega
    · rw [addP_out h] at this ⊢; rw [List.length_append, List.length_singleton] at this; omega
theorem uniq_len (l : List ByteArray) : (uniq l).length ≤ l.length := by have := (fold_len l []).2; simpa [uniq] using this
theorem setF_iff {H S n : Nat} {l : List ByteArray} {i : Nat} : setF H S n l i = true ↔ ∃ p ∈ l, i ∈ pl H S n p := by
  unfold setF
  rw [List.any_eq_true]
  constructor
  · rintro ⟨p, hp, h⟩; exact ⟨p, hp, by simpa using h⟩
  · rintro ⟨p, hp, h⟩; exact ⟨p, hp, by simpa using h⟩
theorem setF_congr {H S n : Nat} {l m : List ByteArray} (h : ∀ p, p ∈ l ↔ p ∈ m) (i : Nat) : setF H S n l i = setF H S n m i := by
  apply Bool.eq_iff_iff.2
  rw [setF_iff, setF_iff]
  constructor
  · rintro ⟨p, hp, hi⟩; exact ⟨p, (h p).1 hp, hi⟩
  · rintro ⟨p, hp, hi⟩; exact ⟨p, (h p).2 hp, hi⟩

/-- What is still to come is a path. -/
def MarkL (ss : List ByteArray) (left : Lit → Bool) : Prop := ∀ kl, left kl = true → ∃ p ∈ ss, kl = keyS p
/-- The bits are those of the paths that have come. -/
def MarkF (ss : List ByteArray) (left : Lit → Bool) (f : Nat → Bool) (PL : ByteArray → List Nat) : Prop := ∀ i, f i = true ↔ ∃ p ∈ ss, left (keyS p) = false ∧ i ∈ PL p
theorem mark_start {H : Type} (u : DataW H) (ss : List ByteArray) (PL : ByteArray → List Nat) : MarkL ss (Maps.has (setOf u (ss.map keyS))) ∧ MarkF ss (Maps.has (setOf u (ss.map keyS))) (fun _ => false) PL := by
  refine ⟨fun kl h => (has_set u ss kl).1 h, fun i => ⟨fun h => absurd h (by simp), ?_⟩⟩
  rintro ⟨p, hp, hf, _⟩
  rw [(has_set u ss (keyS p)).2 ⟨p, hp, rfl⟩] at hf
  cases hf
theorem mark_step {ss : List ByteArray} {left : Lit → Bool} {f g : Nat → Bool} {PL : ByteArray → List Nat} {x : ByteArray} (hL : MarkL ss left) (hF : MarkF ss left f PL) (hx : left (keyS x) = true) (hg : ∀ i, g i = (f i || (PL x).contains i)) :
    MarkL ss (fun z => left z && !z.sameKey (keyS x)) ∧ MarkF ss (fun z => left z && !z.sameKey (keyS x)) g PL := by
  refine ⟨fun kl h => hL kl (by simp at h; exact h.1), fun i => ?_⟩
  rw [hg i, Bool.or_eq_true]
  constructor
  · rintro (h | h)
    · obtain ⟨p, hp, hl, hi⟩ := (hF i).1 h
      exact ⟨p, hp, by simp [hl], hi⟩
    · obtain ⟨p, hp, e⟩ := hL _ hx
      have := keyS_inj e
      subst this
      exact ⟨x, hp, by simp [WideAt.sameKey_self (keyS_key x)], by simpa using h⟩
  · rintro ⟨p, hp, hl, hi⟩
    by_cases h1 : left (keyS p) = false
    · exact .inl ((hF i).2 ⟨p, hp, h1, hi⟩)
    · have h2 : left (keyS p) = true := by simpa using h1
      simp [h2] at hl
      have := keyS_inj (WideAt.sameKey_eq hl)
      subst this
      exact .inr (by simpa using hi)
theorem mark_end {ss : List ByteArray} {left : Lit → Bool} {f : Nat → Bool} {H S n : Nat} (hF : MarkF ss left f (pl H S n)) (h0 : ∀ kl, left kl = false) (i : Nat) : f i = setF H S n ss i := by
  apply Bool.eq_iff_iff.2
  rw [setF_iff, hF i]
  constructor
  · rintro ⟨p, hp, _, hi⟩; exact ⟨p, hp, hi⟩
  · rintro ⟨p, hp, hi⟩; exact ⟨p, hp, h0 _, hi⟩

/-- How many bytes so many paths take. -/
def roomB (u P : Nat) : Nat := max 1 ((u * P + 7) / 8)
/-- The filter's bits. -/
def fbits (H P S : Nat) (l : List ByteArray) : ByteArray := ⟨(bytesB (setF H S (8 * roomB (uniq l).length P) l) (roomB (uniq l).length P)).toArray⟩
/-- The error; the state, the bits. -/
def makeR (H P M : Int) (S : Nat) (l : List ByteArray) : Nat × (Nat × ByteArray) :=
  if chkR H P M ≠ 0 then (1, (0, ⟨#[]⟩)) else if M < (uniq l).length then (0, (2, ⟨#[]⟩)) else (0, (1, fbits H.toNat P.toNat S l))
theorem mk_bad {H P M : Int} {S : Nat} {l : List ByteArray} (h : chkR H P M ≠ 0) : makeR H P M S l = (1, (0, ⟨#[]⟩)) := by unfold makeR; rw [if_pos h]
theorem mk_large {H P M : Int} {S : Nat} {l : List ByteArray} (h : chkR H P M = 0) (h2 : M < (uniq l).length) : makeR H P M S l = (0, (2, ⟨#[]⟩)) := by unfold makeR; rw [if_neg (by simpa using h), if_pos h2]
theorem mk_small {H P M : Int} {S : Nat} {l : List ByteArray} (h : chkR H P M = 0) (h2 : ¬ M < (uniq l).length) : makeR H P M S l = (0, (1, fbits H.toNat P.toNat S l)) := by unfold makeR; rw [if_neg (by simpa using h), if_neg h2]
def MkSaid (R : Nat × (Nat × ByteArray)) (w : World) (r : Ending) (w' : World) : Prop :=
  r = .returned (.tuple #[.agg #[.int .i64 (R.2.1 : Nat), .string R.2.2], .int .i64 (R.1 : Nat)]) ∧ Below w.heap.size w w'
end Go.Proofs.Ytplegohebfajlaa
