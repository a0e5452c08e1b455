/- The whole: what a step turns (a footprint), and rows of anything, cell by cell; WholeLong: paints as numbers; the painter's start and end, plain. -/
import Derived.Test.YtbhfbdcmamodcaaGreatDoorL03
import Derived.Test.YtbhfbdcmamodcaaGreatDoorL01
import Derived.Deep.AppendLies
import Derived.Deep.QuietTactic
import Derived.Laws.Bits64b
set_option linter.unusedVariables false
set_option linter.unusedSimpArgs false
namespace Go.Proofs.YtbhfbdcmamodcaaGreatDoor
open Go.RowKit
abbrev Foot := Nat → Prop
structure Upd (F : Foot) (w w' : World) : Prop where
  os : w'.os = w.os
  tape : w'.tape = w.tape
  output : w'.output = w.output
  size : w.heap.size ≤ w'.heap.size
  block : ∀ k, k < w.heap.size → ¬ F k → w'.heap[k]? = w.heap[k]?
theorem Upd.refl (F : Foot) (w : World) : Upd F w w := ⟨rfl, rfl, rfl, Nat.le_refl _, fun _ _ _ => rfl⟩
theorem Upd.trans {F G : Foot} {w x y : World} (h : Upd F w x) (k : Upd G x y) (hG : ∀ i, G i → F i ∨ w.heap.size ≤ i) : Upd F w y :=
  ⟨k.os.trans h.os, k.tape.trans h.tape, k.output.trans h.output, Nat.le_trans h.size k.size, fun i hi hn => by
    rw [k.block i (Nat.lt_of_lt_of_le hi h.size) (fun g => (hG i g).elim hn (by omega)), h.block i hi hn]⟩
theorem Upd.mono {F G : Foot} {w x : World} (h : Upd F w x) (hF : ∀ i, F i → G i) : Upd G w x :=
  ⟨h.os, h.tape, h.output, h.size, fun i hi hn => h.block i hi fun e => hn (hF i e)⟩
theorem Upd.of {F : Foot} {w x : World} (h : Below w.heap.size w x) : Upd F w x := ⟨h.os, h.tape, h.output, h.size, fun i hi _ => h.block i hi⟩
theorem Upd.thenB {F : Foot} {w x y : World} (h : Upd F w x) (k : Below x.heap.size x y) : Upd F w y := h.trans (Upd.of (F := fun _ => False) k) (fun _ e => e.elim)
theorem Upd.below {F : Foot} {B : Nat} {w x : World} (h : Upd F w x) (hF : ∀ i, F i → B ≤ i) (hB : B ≤ w.heap.size) : Below B w x :=
  ⟨h.os, h.tape, h.output, h.size, fun i hi => h.block i (by omega) (fun e => by have := hF i e; omega)⟩
theorem Upd.drew {F : Foot} {w x : World} (h : Upd F w x) : Upd F w x.drew := ⟨h.os, h.tape, h.output, h.size, h.block⟩
theorem Upd.drewN {F : Foot} {w x : World} (h : Upd F w x) (n : Nat) : Upd F w (x.drewN n) := ⟨h.os, h.tape, h.output, h.size, h.block⟩
theorem Upd.alloc {F : Foot} {w x : World} (h : Upd F w x) (o : Obj) : Upd F w (x.alloc o) := h.thenB (bl_alloc (Below.refl _ x) o)
theorem Upd.set {F : Foot} {w x : World} (h : Upd F w x) (p o : Nat) (v : Value) (hp : F p ∨ w.heap.size ≤ p) : Upd F w (x.setCell ⟨p, o, none⟩ v) :=
  h.trans (G := (· = p)) ⟨rfl, rfl, rfl, by simp [World.setCell], fun i _ hn => heap_setCell_other _ _ _ _ hn⟩ (fun i e => by subst e; exact hp)
theorem Upd.grown {F : Foot} {w x y : World} {r : Option Nat} (h : Upd F w x) (k : x.grownBy y r) (hr : ∀ g, r = some g → F g ∨ w.heap.size ≤ g) : Upd F w y :=
  h.trans (G := fun i => r = some i) ⟨k.os, k.tape, k.output, k.size, fun i hi hn => k.block i hi (fun e => hn e.symm)⟩ (fun i e => hr i e)
structure Grew (F F' : Foot) (w w' : World) : Prop where
  upd : Upd F w w'
  sub : ∀ k, F' k → F k ∨ w.heap.size ≤ k
  lt : ∀ k, F' k → k < w'.heap.size
theorem Grew.trans {F G H : Foot} {w x y : World} (h : Grew F G w x) (k : Grew G H x y) : Grew F H w y :=
  ⟨h.upd.trans k.upd h.sub, fun i e => by
    rcases k.sub i e with e2 | e2
    · exact h.sub i e2
    · exact .inr (Nat.le_trans h.upd.size e2), k.lt⟩
theorem Grew.refl {F : Foot} {w : World} (h : ∀ k, F k → k < w.heap.size) : Grew F F w w := ⟨Upd.refl _ _, fun _ e => .inl e, h⟩
theorem Grew.thenB {F G : Foot} {w x y : World} (h : Grew F G w x) (k : Below x.heap.size x y) : Grew F G w y :=
  ⟨h.upd.thenB k, h.sub, fun i e => Nat.lt_of_lt_of_le (h.lt i e) k.size⟩
theorem Grew.after {F G : Foot} {w x y : World} (k : Below w.heap.size w x) (h : Grew F G x y) : Grew F G w y :=
  ⟨(Upd.of k).trans h.upd (fun _ e => .inl e), fun i e => by
    rcases h.sub i e with e2 | e2
    · exact .inl e2
    · exact .inr (Nat.le_trans k.size e2), h.lt⟩
def Apart (F G : Foot) : Prop := ∀ k, F k → G k → False
theorem Apart.symm {F G : Foot} (h : Apart F G) : Apart G F := fun k a b => h k b a
theorem Apart.step {F F' G : Foot} {w w' : World} (h : Apart F G) (k : Grew F F' w w') (hG : ∀ i, G i → i < w.heap.size) : Apart F' G := fun i a b => by
  rcases k.sub i a with e | e
  · exact h i e b
  · have := hG i b; omega
def Stays (G : Foot) (w w' : World) : Prop := (∀ k, G k → w'.heap[k]? = w.heap[k]?) ∧ w.heap.size ≤ w'.heap.size
theorem Upd.stays {F G : Foot} {w x : World} (h : Upd F w x) (ha : Apart F G) (hG : ∀ i, G i → i < w.heap.size) : Stays G w x :=
  ⟨fun k hk => h.block k (hG k hk) (fun e => ha k e hk), h.size⟩
theorem Stays.of {G : Foot} {w x : World} (h : Below w.heap.size w x) (hG : ∀ i, G i → i < w.heap.size) : Stays G w x := ⟨fun k hk => h.block k (hG k hk), h.size⟩
theorem Stays.mono {F G : Foot} {w x : World} (h : Stays G w x) (hF : ∀ i, F i → G i) : Stays F w x := ⟨fun k e => h.1 k (hF k e), h.2⟩
theorem Stays.cell {G : Foot} {w x : World} (h : Stays G w x) {b o : Nat} (hb : G b) : x.cell? ⟨b, o, none⟩ = w.cell? ⟨b, o, none⟩ := World.cell?_of_block (h.1 b hb)
theorem row_stays {w x : World} {B e k n : Nat} {v : Value} {xs : List Value} (h : w.ownsRow B e k v n xs) (hs : ∀ g, v.ownBlock = some g → x.heap[g]? = w.heap[g]?) : x.ownsRow B e k v n xs := by
  obtain ⟨h1, h2⟩ := h
  refine ⟨h1, ?_⟩
  rcases h2 with h2 | ⟨g, cap, cur, rfl, hb, hh, r⟩
  · exact .inl h2
  · exact .inr ⟨g, cap, cur, rfl, hb, (hs g rfl).trans hh, r⟩
theorem cell_al {w : World} {p : Addr} {v : Value} (hc : w.cell? p = some v) (o : Obj) : (w.alloc o).cell? p = some v := (World.cell?_alloc_lt _ _ _ (World.block_lt_of_cell? w _ hc)).trans hc
theorem keep_grown {w x : World} {r : Option Nat} (hg : w.grownBy x r) {b o : Nat} {v : Value} (hc : w.cell? ⟨b, o, none⟩ = some v) (hn : r ≠ some b) : x.cell? ⟨b, o, none⟩ = some v := by
  rw [World.cell?_of_block (hg.block b (World.block_lt_of_cell? w _ hc) (Ne.symm hn))]
  exact hc

/-! Rows of anything: the elements' cells, one behind the other. -/
def CellsAt (w : World) (a : Option Addr) (xs : List Value) : Prop := ∀ (j : Nat) v, xs[j]? = some v → ∃ b off, a = some ⟨b, off, none⟩ ∧ b < w.heap.size ∧ w.cell? ⟨b, off + j, none⟩ = some v
theorem CellsAt.stays {w x : World} {a : Option Addr} {xs : List Value} (h : CellsAt w a xs) (hs : ∀ b off, a = some ⟨b, off, none⟩ → 0 < xs.length → x.heap[b]? = w.heap[b]?) (hz : w.heap.size ≤ x.heap.size) : CellsAt x a xs := fun j v hj => by
  obtain ⟨b, off, h1, h2, h3⟩ := h j v hj
  exact ⟨b, off, h1, Nat.lt_of_lt_of_le h2 hz, by rw [World.cell?_of_block (hs b off h1 (by have := (List.getElem?_eq_some_iff.1 hj).1; omega))]; exact h3⟩
theorem CellsAt.below {w x : World} {a : Option Addr} {xs : List Value} (h : CellsAt w a xs) (hb : Below w.heap.size w x) : CellsAt x a xs := fun j v hj => by
  obtain ⟨b, off, h1, h2, h3⟩ := h j v hj
  exact ⟨b, off, h1, Nat.lt_of_lt_of_le h2 hb.size, bl_cell hb h3⟩
theorem CellsAt.nil (w : World) (a : Option Addr) : CellsAt w a [] := fun j v hj => by simp at hj
theorem CellsAt.empty {w : World} {xs : List Value} (h : CellsAt w none xs) : xs = [] := by
  cases xs with
  | nil => rfl
  | cons v r => obtain ⟨b, off, h1, _⟩ := h 0 v rfl; cases h1
theorem CellsAt.src {w : World} {p : Addr} {xs : List Value} (h : CellsAt w (some p) xs) : ∀ (j : Nat) u, xs[j]? = some u → w.cell? (p.add j) = some u := fun j u hj => by
  obtain ⟨b, off, h1, _, h3⟩ := h j u hj
  cases h1
  rw [show (⟨b, off, none⟩ : Addr).add j = ⟨b, off + j, none⟩ from by unfold Addr.add; split <;> simp_all]
  exact h3
def Wide {α : Type} (enc : α → List Value) (k : Nat) : Prop := ∀ x, (enc x).length = k
theorem flat_length {α : Type} {enc : α → List Value} {k : Nat} (hk : Wide enc k) : ∀ l : List α, (l.flatMap enc).length = l.length * k
  | [] => by simp
  | x :: r => by rw [List.flatMap_cons, List.length_append, hk x, flat_length hk r, List.length_cons, Nat.add_mul]; omega
theorem flat_get {α : Type} {enc : α → List Value} {k : Nat} (hk : Wide enc k) : ∀ (l : List α) (i : Nat) (h : i < l.length) (c : Nat), c < k → (l.flatMap enc)[i * k + c]? = (enc l[i])[c]?
  | [], i, h, c, _ => by simp at h
  | x :: r, 0, h, c, hc => by
    rw [List.flatMap_cons, Nat.zero_mul, Nat.zero_add, List.getElem?_append_left (by rw [hk x]; exact hc)]
    rfl
  | x :: r, i + 1, h, c, hc => by
    rw [List.flatMap_cons, List.getElem?_append_right (by rw [hk x, Nat.add_mul]; omega), hk x, show (i + 1) * k + c - k = i * k + c from by rw [Nat.add_mul]; omega]
    exact flat_get hk r i (by simpa using h) c hc
theorem CellsAt.elem {α : Type} {enc : α → List Value} {k : Nat} (hk : Wide enc k) {w : World} {a : Option Addr} {l : List α} (h : CellsAt w a (l.flatMap enc)) {i : Nat} (hi : i < l.length) (h0 : 0 < k) :
    ∃ b off, a = some ⟨b, off, none⟩ ∧ b < w.heap.size ∧ ∀ c v, (enc l[i])[c]? = some v → w.cell? ⟨b, off + i * k + c, none⟩ = some v := by
  have hg : ∀ c v, (enc l[i])[c]? = some v → (l.flatMap enc)[i * k + c]? = some v := fun c v hv => by
    have hc := (List.getElem?_eq_some_iff.1 hv).1
    rw [hk] at hc
    rw [flat_get hk l i hi c hc]; exact hv
  obtain ⟨v0, hv0⟩ : ∃ v, (enc l[i])[0]? = some v := ⟨(enc l[i])[0]'(by rw [hk]; exact h0), List.getElem?_eq_getElem (by rw [hk]; exact h0)⟩
  obtain ⟨b, off, h1, h2, _⟩ := h _ v0 (hg 0 v0 hv0)
  refine ⟨b, off, h1, h2, fun c v hv => ?_⟩
  obtain ⟨b', off', h1', _, h3⟩ := h _ v (hg c v hv)
  rw [h1] at h1'
  cases h1'
  rw [Nat.add_assoc]
  exact h3
theorem CellsAt.take {α : Type} {enc : α → List Value} {w : World} {a : Option Addr} {l : List α} (h : CellsAt w a (l.flatMap enc)) (n : Nat) : CellsAt w a ((l.take n).flatMap enc) := fun j v hj => by
  refine h j v ?_
  have e : l.flatMap enc = (l.take n).flatMap enc ++ (l.drop n).flatMap enc := by rw [← List.flatMap_append, List.take_append_drop]
  rw [e, List.getElem?_append_left (List.getElem?_eq_some_iff.1 hj).1]
  exact hj
def OwnX {α : Type} (E : TypeId) (k : Nat) (enc : α → List Value) (w : World) (B : Nat) (v : Value) (l : List α) : Prop := w.ownsRow B E k v l.length (l.flatMap enc)
theorem OwnX.nil {α : Type} (E : TypeId) (k : Nat) (enc : α → List Value) (w : World) (B : Nat) : OwnX E k enc w B (.slice none 0 0) ([] : List α) := World.ownsRow_nil _ _ _ _
theorem OwnX.lt {α : Type} {E : TypeId} {k : Nat} {enc : α → List Value} {w : World} {B : Nat} {v : Value} {l : List α} (h : OwnX E k enc w B v l) : ∀ g, v.ownBlock = some g → B ≤ g ∧ g < w.heap.size := World.ownsRow.lt h
theorem OwnX.stays {α : Type} {E : TypeId} {k : Nat} {enc : α → List Value} {w x : World} {B : Nat} {v : Value} {l : List α} (h : OwnX E k enc w B v l) (hs : ∀ g, v.ownBlock = some g → x.heap[g]? = w.heap[g]?) : OwnX E k enc x B v l := row_stays h hs
theorem OwnX.below {α : Type} {E : TypeId} {k : Nat} {enc : α → List Value} {w x : World} {B : Nat} {v : Value} {l : List α} (h : OwnX E k enc w B v l) (hb : Below w.heap.size w x) : OwnX E k enc x B v l := h.stays fun g e => hb.block g (h.lt g e).2
theorem OwnX.push {α : Type} {E : TypeId} {k : Nat} {enc : α → List Value} {w : World} {B : Nat} {v : Value} {l m : List α} {n : Nat} {xs : List Value} (h : w.ownsRow B E k v n (l.flatMap enc ++ xs)) (hn : n = l.length + m.length) (hx : xs = m.flatMap enc) : OwnX E k enc w B v (l ++ m) := by
  subst hn; subst hx
  unfold OwnX
  rw [List.length_append, List.flatMap_append]
  exact h
theorem OwnX.mono {α : Type} {E : TypeId} {k : Nat} {enc : α → List Value} {w : World} {B C : Nat} {v : Value} {l : List α} (h : OwnX E k enc w B v l) (hC : C ≤ B) : OwnX E k enc w C v l := by
  obtain ⟨h1, h2⟩ := h
  refine ⟨h1, ?_⟩
  rcases h2 with h2 | ⟨g, cap, cur, rfl, hb, r⟩
  · exact .inl h2
  · exact .inr ⟨g, cap, cur, rfl, by omega, r⟩
theorem OwnX.sl {α : Type} {E : TypeId} {k : Nat} {enc : α → List Value} {w : World} {B : Nat} {v : Value} {l : List α} (h : OwnX E k enc w B v l) :
    ∃ a c, v = .slice a l.length c ∧ CellsAt w a (l.flatMap enc) ∧ l.length ≤ c ∧ c ≤ maxLen ∧ (∀ b off, a = some ⟨b, off, none⟩ → v.ownBlock = some b) ∧ (a = none → l = []) := by
  obtain ⟨h1, h2⟩ := h
  rcases h2 with ⟨rfl, h2⟩ | ⟨g, cap, cur, rfl, hb, hh, hn, hm, hsz, htk⟩
  · have hl : l = [] := List.length_eq_zero_iff.1 h2
    subst hl
    exact ⟨none, 0, rfl, CellsAt.nil _ _, Nat.le_refl _, Nat.zero_le _, (fun _ _ e => by cases e), fun _ => rfl⟩
  · refine ⟨some ⟨g, 0, none⟩, cap, rfl, fun j u hj => ⟨g, 0, rfl, (Array.getElem?_eq_some_iff.1 hh).1, ?_⟩, hn, hm, (fun b off e => by cases e; rfl), (fun e => by cases e)⟩
    rw [← htk] at hj
    have hj2 : cur[j]? = some u := by
      rw [List.getElem?_take] at hj
      split at hj
      · simpa using hj
      · cases hj
    have hc := cell_of_row w g (0 + j) _ _ _ hh
    rw [hc, Nat.zero_add]
    exact hj2
theorem cells_new (w : World) (xs : List Value) (t : TypeId) {H : Nat} (h : w.heap.size = H) : ∀ (j : Nat) u, xs[j]? = some u → (w.alloc (.cells xs.toArray t)).cell? ((⟨H, 0, none⟩ : Addr).add j) = some u := by
  intro j u hj
  subst h
  rw [show (⟨w.heap.size, 0, none⟩ : Addr).add j = ⟨w.heap.size, 0 + j, none⟩ from by unfold Addr.add; split <;> simp_all, cell_of_row _ _ _ _ _ _ (heap_alloc_new w _), Nat.zero_add]
  simpa using hj
theorem bel_grown {B : Nat} {w v x y : World} {r : Option Nat} (h : Below B w v) (hB : B ≤ v.heap.size) (k : Below v.heap.size v x) (g : x.grownBy y r) (hr : ∀ i, r = some i → B ≤ i) : Below B w y :=
  (h.trans (k.mono hB)).grown g (Nat.le_trans hB k.size) hr
theorem flat_set {α : Type} {enc : α → List Value} {k : Nat} (hk : Wide enc k) (y : α) (c : Nat) (u : Value) : ∀ (l : List α) (i : Nat) (h : i < l.length), c < k → enc y = (enc l[i]).set c u → (l.flatMap enc).set (i * k + c) u = (l.set i y).flatMap enc
  | [], i, h, _, _ => by simp at h
  | x :: r, 0, h, hc, he => by
    rw [List.flatMap_cons, Nat.zero_mul, Nat.zero_add, List.set_append_left _ _ (by rw [hk x]; exact hc), List.set_cons_zero, List.flatMap_cons, he]
    rfl
  | x :: r, i + 1, h, hc, he => by
    rw [List.flatMap_cons, List.set_append_right _ _ (by rw [hk x, Nat.add_mul]; omega), hk x, show (i + 1) * k + c - k = i * k + c from by rw [Nat.add_mul]; omega, List.set_cons_succ, List.flatMap_cons,
      flat_set hk y c u r i (by simpa using h) hc he]
theorem OwnX.put {α : Type} {E : TypeId} {k : Nat} {enc : α → List Value} (hk : Wide enc k) {w : World} {B g cap : Nat} {l : List α} (h : OwnX E k enc w B (.slice (some ⟨g, 0, none⟩) l.length cap) l) {i : Nat} (hi : i < l.length) (c : Nat) (hc : c < k) (u : Value) (y : α) (he : enc y = (enc l[i]).set c u) :
    OwnX E k enc (w.setCell ⟨g, i * k + c, none⟩ u) B (.slice (some ⟨g, 0, none⟩) l.length cap) (l.set i y) ∧ w.grownBy (w.setCell ⟨g, i * k + c, none⟩ u) (some g) := by
  obtain ⟨h1, h2⟩ := World.ownsRow.stored h (i * k + c) u
  rw [flat_set hk y c u l i hi hc he] at h1
  refine ⟨?_, h2⟩
  unfold OwnX
  rw [List.length_set]
  exact h1
theorem OwnX.form {α : Type} {E : TypeId} {k : Nat} {enc : α → List Value} {w : World} {B : Nat} {v : Value} {l : List α} (h : OwnX E k enc w B v l) (h0 : 0 < l.length) : ∃ g cap, v = .slice (some ⟨g, 0, none⟩) l.length cap ∧ B ≤ g ∧ g < w.heap.size ∧ l.length ≤ cap ∧ cap ≤ maxLen := by
  rcases h.2 with ⟨_, h2⟩ | ⟨g, cap, cur, h1, h2, h3, h4, h5, _⟩
  · omega
  · exact ⟨g, cap, h1, h2, (Array.getElem?_eq_some_iff.1 h3).1, h4, h5⟩
theorem OwnX.free {α : Type} {E : TypeId} {k : Nat} {enc : α → List Value} {w : World} {B n g cap : Nat} {l : List α} (h : OwnX E k enc w B (.slice (some ⟨g, 0, none⟩) n cap) l) (j : Nat) : w.frozen? ⟨g, j, none⟩ = false := by
  rcases h.2 with ⟨h', _⟩ | ⟨g', cap', cur, h', _, hg, _⟩
  · simp at h'
  · cases h'
    exact frozen_of_row w _ j cur E hg
def natV (n : Nat) : List Value := [.int .i64 (n : Nat)]
theorem natW : Wide natV 1 := fun _ => rfl
theorem nat_one (l : List Nat) : ∀ u ∈ l.flatMap natV, u.oneCell' = true := by
  intro u hu
  obtain ⟨x, _, hx⟩ := List.mem_flatMap.1 hu
  simp [natV] at hx
  subst hx
  rfl
theorem nat_cells {w : World} {a : Option Addr} {l : List Nat} (h : CellsAt w a (l.flatMap natV)) {k : Nat} (hk : k < l.length) :
    ∃ b off, a = some ⟨b, off, none⟩ ∧ b < w.heap.size ∧ w.cell? ⟨b, off + k, none⟩ = some (.int .i64 (l[k] : Nat)) := by
  obtain ⟨b, off, h1, h2, h3⟩ := h.elem natW hk (by decide)
  exact ⟨b, off, h1, h2, by have := h3 0 _ rfl; rwa [Nat.mul_one, Nat.add_zero] at this⟩
end Go.Proofs.YtbhfbdcmamodcaaGreatDoor
namespace Go.Proofs.YtbhfbdcmamodcaaGreatDoor
open Go.RowKit LgMath
def pcode (p : Paint) : Nat := (if p.l then 1 else 0) + (if p.r then 2 else 0) + (if p.s then 4 else 0)
theorem pcode_lt (p : Paint) : pcode p < 8 := by
  obtain ⟨l, r, s⟩ := p
  cases l <;> cases r <;> cases s <;> decide
theorem pcode_or (p q : Paint) : bits .or .i64 (pcode p : Int) (pcode q : Int) = (pcode (p.or q) : Int) := by
  obtain ⟨l, r, s⟩ := p
  obtain ⟨l', r', s'⟩ := q
  cases l <;> cases r <;> cases s <;> cases l' <;> cases r' <;> cases s' <;> decide
theorem pcode_stale (p : Paint) : bits .and .i64 (pcode p : Int) 4 = if p.s then 4 else 0 := by
  obtain ⟨l, r, s⟩ := p
  cases l <;> cases r <;> cases s <;> decide
theorem pcode_both (p : Paint) : bits .and .i64 (pcode p : Int) 3 = if p.l then (if p.r then 3 else 1) else (if p.r then 2 else 0) := by
  obtain ⟨l, r, s⟩ := p
  cases l <;> cases r <;> cases s <;> decide
theorem pcode_turn (p : Paint) : bits .or .i64 (pcode p : Int) 4 = (pcode ⟨p.l, p.r, true⟩ : Int) := by
  obtain ⟨l, r, s⟩ := p
  cases l <;> cases r <;> cases s <;> decide
theorem Paint.out_both {p : Paint} (h : p.l = true ∧ p.r = true) : p.out = ⟨p.l, p.r, true⟩ := by
  unfold Paint.out; rw [h.1, h.2]; simp
theorem Paint.out_not {p : Paint} (h : ¬ (p.l = true ∧ p.r = true)) : p.out = p := by
  unfold Paint.out
  have : (p.l && p.r) = false := by cases hl : p.l <;> cases hr : p.r <;> simp_all
  rw [this, Bool.or_false]
theorem Paint.out_stale {p : Paint} (h : p.s = true) : p.out = p := by
  unfold Paint.out
  rw [h, Bool.true_or]
  obtain ⟨l, r, s⟩ := p
  simp at h
  rw [h]
namespace LgMath
def paint0 (a b : Nat) (y : Nat) : Paint := ⟨decide (y = a), decide (y = b), false⟩
def wait0 (a b : Nat) : List Nat := if a = b then [a] else [a, b]
theorem Inv.start (G : Gr) (a b : Nat) : Inv G a b (fun _ => []) (paint0 a b) (fun _ => false) (wait0 a b) := by
  refine ⟨by simp, by simp, ?_, fun y => ?_, by simp, by simp, fun y => by simp [paint0], fun y => by simp [paint0], fun y => by simp [paint0]⟩
  · unfold wait0
    split
    · simp
    · rename_i h; simpa using h
  · unfold wait0 paint0 Paint.any
    split
    · rename_i h; subst h; simp
    · simp
theorem Inv.fullStart (G : Gr) : Full G (fun _ => []) (fun _ => false) := fun x hx => by cases hx
theorem fresh_start (a b : Nat) : freshN (paint0 a b) (wait0 a b) = (wait0 a b).length := by
  unfold freshN paint0
  simp
def foundF (pt : Nat → Paint) (done : Nat → Bool) (y : Nat) : Bool := done y && ((pt y).l && (pt y).r && !(pt y).s)
theorem found_end {G : Gr} {a b : Nat} {pr : Nat → List Nat} {pt : Nat → Paint} {done : Nat → Bool} {Q : List Nat} (hG : LowG G) (h : Inv G a b pr pt done Q) (hf : Full G pr done) (h0 : freshN pt Q = 0) : foundF pt done = bestB G a b := by
  funext y
  rw [Bool.eq_iff_iff, bestB_iff]
  unfold foundF
  constructor
  · intro e
    simp only [Bool.and_eq_true, Bool.not_eq_true'] at e
    exact h.found hG hf e.1 ⟨e.2.1.1, e.2.1.2, e.2.2⟩
  · intro e
    obtain ⟨e1, e2, e3, e4⟩ := h.all hG hf (fresh_zero h0) e
    simp [e1, e2, e3, e4]
theorem Full.close {G : Gr} {pr : Nat → List Nat} {done : Nat → Bool} {c : Nat} (h : Full G pr done) (hc : done c = false) {pr' : Nat → List Nat} (he : ∀ x, x ≠ c → pr' x = pr x) (hp : ∀ y ∈ par G c, y ∈ pr' c) : Full G pr' (upd done c true) := fun x hx y hy => by
  by_cases e : x = c
  · subst e; exact hp y hy
  · rw [upd_other _ _ e] at hx
    rw [he x e]
    exact h x hx y hy
end LgMath
end Go.Proofs.YtbhfbdcmamodcaaGreatDoor
