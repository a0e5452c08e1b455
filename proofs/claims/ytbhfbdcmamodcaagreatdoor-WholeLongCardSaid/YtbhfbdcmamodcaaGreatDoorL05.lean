/- Layer 4 (marks), walked: a set of numbers in its words; Layer 4 (marks), walked: a new set, putting in; Layer 3 (queue) at walk's commits, walked: which goes ahead; how many; the first; Layer 3 (queue) at walk's commits, walked: Push; The whole: links of a chain: numbers, sums, the next number; The whole: is a number among those of some links?; The whole: a good chain is found good; Layer 3 (queue) at bases's commits, walked: which goes ahead; how many; the first; Layer 3 (queue) at bases's commits, walked: Push. -/
import Derived.Test.YtbhfbdcmamodcaaGreatDoorL01
import Derived.Test.YtbhfbdcmamodcaaGreatDoorL04
import Derived.Test.YtbhfbdcmamodcaaGreatDoorProg
import Derived.Laws.Bits64b
import Derived.Deep.AppendLies
import Derived.Deep.QuietTactic
set_option linter.unusedVariables false
set_option linter.unusedSimpArgs false
namespace Go.Proofs.YtbhfbdcmamodcaaGreatDoor
open Go.RowKit LgMath
def wordV (x : Nat) : List Value := [.int .u64 (x : Nat)]
theorem wordW : Wide wordV 1 := fun _ => rfl
structure MarksAt (w : World) (s g size : Nat) (f : Nat → Bool) : Prop where
  ex : ∃ ws : List Nat, w.heap[s]? = some (.cells #[.int .i64 (size : Nat), .slice (some ⟨g, 0, none⟩) ws.length ws.length] 273 (0, 0)) ∧ OwnX 197 1 wordV w 0 (.slice (some ⟨g, 0, none⟩) ws.length ws.length) ws ∧ SetW ws size f
  ne : s ≠ g
  few : size ≤ 65536
theorem MarksAt.stays {w w' : World} {s g size : Nat} {f : Nat → Bool} (h : MarksAt w s g size f) (h1 : w'.heap[s]? = w.heap[s]?) (h2 : w'.heap[g]? = w.heap[g]?) : MarksAt w' s g size f := by
  obtain ⟨⟨ws, a, b, c⟩, h3, h4⟩ := h
  exact ⟨⟨ws, h1.trans a, b.stays fun k e => by simp [Value.ownBlock] at e; subst e; exact h2, c⟩, h3, h4⟩
theorem MarksAt.lt {w : World} {s g size : Nat} {f : Nat → Bool} (h : MarksAt w s g size f) : s < w.heap.size ∧ g < w.heap.size := by
  obtain ⟨⟨ws, a, b, c⟩, h3, h4⟩ := h
  exact ⟨(Array.getElem?_eq_some_iff.1 a).1, (b.lt g rfl).2⟩
theorem MarksAt.below {w w' : World} {s g size : Nat} {f : Nat → Bool} (h : MarksAt w s g size f) (hb : Below w.heap.size w w') : MarksAt w' s g size f :=
  h.stays (hb.block _ h.lt.1) (hb.block _ h.lt.2)
theorem MarksAt.upd {F : Foot} {w w' : World} {s g size : Nat} {f : Nat → Bool} (h : MarksAt w s g size f) (hu : Upd F w w') (h1 : ¬ F s) (h2 : ¬ F g) : MarksAt w' s g size f :=
  h.stays (hu.block _ h.lt.1 h1) (hu.block _ h.lt.2 h2)
theorem word_at {w : World} {g n : Nat} {ws : List Nat} (h : OwnX 197 1 wordV w 0 (.slice (some ⟨g, 0, none⟩) ws.length ws.length) ws) (hn : n < ws.length) : w.cell? ⟨g, n, none⟩ = some (.int .u64 (ws.getD n 0 : Nat)) := by
  obtain ⟨a, c, e, hc, _⟩ := h.sl
  obtain ⟨rfl, _, _⟩ := Value.slice.inj e
  obtain ⟨b, off, e1, _, e3⟩ := hc.elem wordW hn (by decide)
  cases e1
  have := e3 0 _ rfl
  rw [Nat.mul_one, Nat.add_zero, Nat.zero_add] at this
  rw [this, List.getD_eq_getElem?_getD, List.getElem?_eq_getElem hn]
  rfl
set_option maxRecDepth 100000 in
theorem mSize {w : World} {s g size : Nat} {f : Nat → Bool} (h : MarksAt w s g size f) :
    Calls Tryz.prog 176 #[.pointer (some ⟨s, 0, none⟩)] w fun e w' => e = .returned (.int .i64 (size : Nat)) ∧ w' = w := by
  obtain ⟨⟨ws, a, b, c⟩, h3, h4⟩ := h
  have c0 : w.cell? ⟨s, 0, none⟩ = some (.int .i64 (size : Nat)) := by rw [cell_of_row _ _ _ _ _ _ a]; rfl
  clear a b c
  go_enter Tryz.func176, Tryz.ntmps176
  go_wp2
  go_ret
  trivial
theorem u64_and1 (x : Nat) (h : x < 18446744073709551616) : bits .and .u64 (x : Int) 1 = ((x % 2 : Nat) : Int) := by
  rw [show (1 : Int) = ((1 : Nat) : Int) from rfl, bits_and_u64_nat x 1 h (by decide), Nat.and_one_is_mod]
theorem div_pow (b r : Nat) : (b : Int) / 2 ^ r = ((b / 2 ^ r : Nat) : Int) := by
  rw [Int.natCast_ediv, Int.natCast_pow]; rfl
set_option maxHeartbeats 1000000 in
set_option maxRecDepth 100000 in
theorem mHas {w : World} {s g size : Nat} {f : Nat → Bool} (h : MarksAt w s g size f) (n : Nat) (hn : n < size) :
    Calls Tryz.prog 177 #[.pointer (some ⟨s, 0, none⟩), .int .i64 (n : Nat)] w fun e w' => e = .returned (.bool (f n)) ∧ w' = w := by
  have HS := Lib.hid (mSize h)
  obtain ⟨⟨ws, a, b, c⟩, h3, h4⟩ := h
  obtain ⟨q, hq⟩ : ∃ q, n / 64 = q := ⟨_, rfl⟩
  obtain ⟨r, hr⟩ : ∃ r, n % 64 = r := ⟨_, rfl⟩
  have hql : q < ws.length := by rw [← hq]; exact c.word hn
  have hrl : r < 64 := by omega
  have hx := c.has (n := n)
  have hlt := c.lt q
  have cw := word_at b hql
  have c1 : w.cell? ⟨s, 1, none⟩ = some (.slice (some ⟨g, 0, none⟩) ws.length ws.length) := by rw [cell_of_row _ _ _ _ _ _ a]; rfl
  rw [hq, hr] at hx
  generalize ws.getD q 0 = x at *
  generalize ws.length = m at *
  have hdv : (n : Int) / 64 = (q : Int) := by omega
  have hmd : (n : Int) % 64 = (r : Int) := by omega
  have hdv2 : Int.tdiv (n : Int) 64 = (q : Int) := by rw [Int.tdiv_eq_ediv_of_nonneg (by omega)]; exact hdv
  have hmd2 : Int.tmod (n : Int) 64 = (r : Int) := by rw [Int.tmod_eq_emod_of_nonneg (by omega)]; exact hmd
  have hs1 := div_pow x r
  have hy : x / 2 ^ r < 18446744073709551616 := Nat.lt_of_le_of_lt (Nat.div_le_self _ _) hlt
  generalize x / 2 ^ r = y at *
  have ha1 := u64_and1 y hy
  have hg1 : decide ((n : Int) ≥ 0) = true := decide_eq_true (by omega)
  have hg2 : decide ((n : Int) < (size : Int)) = true := decide_eq_true (by omega)
  have hg3 : decide (n < size) = true := decide_eq_true hn
  obtain ⟨t, ht⟩ : ∃ t, f n = t := ⟨_, rfl⟩
  rw [ht] at hx ⊢
  clear a b c hq hr
  cases t with
  | true =>
    have hx2 : y % 2 = 1 := by simpa using hx
    have hb : (((y % 2 : Nat) : Int) != 0) = true := by rw [hx2]; rfl
    have hb2 : ((y : Int) % 2 != 0) = true := by rw [bne_iff_ne]; omega
    clear hx ht
    go_enter Tryz.func177, Tryz.ntmps177
    go_wp2_with fail
    (with_reducible refine HS.out.mono ?_)
    rintro e w1 ⟨rfl, rfl⟩
    go_wp2
    go_ret
    trivial
  | false =>
    have hx2 : y % 2 = 0 := by simpa using hx
    have hb : (((y % 2 : Nat) : Int) != 0) = false := by rw [hx2]; rfl
    have hb2 : ((y : Int) % 2 != 0) = false := by rw [bne_eq_false_iff_eq]; omega
    clear hx ht
    go_enter Tryz.func177, Tryz.ntmps177
    go_wp2_with fail
    (with_reducible refine HS.out.mono ?_)
    rintro e w1 ⟨rfl, rfl⟩
    go_wp2
    go_ret
    trivial
end Go.Proofs.YtbhfbdcmamodcaaGreatDoor
namespace Go.Proofs.YtbhfbdcmamodcaaGreatDoor
open Go.RowKit LgMath
theorem infoWordZ : (Tryz.prog.info? 197).map (fun i => (i.zero, i.size, i.bytes)) = some (some (.int .u64 0), 1, 8) := by kernel_rfl
theorem made_below {w w' : World} {row : Option Nat} (h : w.grownBy w' row) (hr : ∀ g, row = some g → w.heap.size ≤ g) : Below w.heap.size w w' := (Below.refl _ w).grown h (Nat.le_refl _) hr
theorem words_nil (n : Nat) : List.replicate n (Value.int .u64 0) = (List.replicate n 0).flatMap wordV := by
  induction n with
  | zero => rfl
  | succ n ih => rw [List.replicate_succ, List.replicate_succ, List.flatMap_cons, ← ih]; rfl
set_option maxHeartbeats 1000000 in
set_option maxRecDepth 100000 in
theorem mNew (n : Nat) (hn : n ≤ 65536) (w : World) :
    Calls Tryz.prog 105 #[.int .i64 (n : Nat)] w fun e w' => ∃ s g, e = .returned (.pointer (some ⟨s, 0, none⟩)) ∧ MarksAt w' s g n (fun _ => false) ∧ w.heap.size ≤ s ∧ w.heap.size ≤ g ∧ Below w.heap.size w w' := by
  obtain ⟨j0, hj, hy0, hy1, hy2⟩ := info_parts infoWordZ
  obtain ⟨m, hm⟩ : ∃ m, (n + 63) / 64 = m := ⟨_, rfl⟩
  have hml : m ≤ 1024 := by omega
  have hzc : (madeCells (Value.int .u64 0).cells (m * 1)).toList = (List.replicate m 0).flatMap wordV := by rw [Nat.mul_one]; exact (toList_madeCells_one _ m).trans (words_nil m)
  obtain ⟨w2, hmk, hown2, hg2⟩ := run_make_full (P := Tryz.prog) w w.heap.size 271 197 j0 (.int .u64 0) 1 Tryz.underlying271 hj hy0 hy1 .i64 .i64 m (by rw [hy2]; omega) (by unfold maxLen; omega) (Nat.le_refl _)
  rw [hzc] at hown2
  have hb2 := made_below hg2 (fun g h => by cases h)
  have hsz := (hown2.lt w.heap.size rfl).2
  obtain ⟨W3, hW3⟩ : ∃ W3, w2.alloc (.cells #[.int .i64 (n : Nat), .slice (some ⟨w.heap.size, 0, none⟩) m m] 273) = W3 := ⟨_, rfl⟩
  have hb3 : Below w2.heap.size w2 W3 := by rw [← hW3]; exact bl_alloc (Below.refl _ _) _
  have hs3 : W3.heap[w2.heap.size]? = some (.cells #[.int .i64 (n : Nat), .slice (some ⟨w.heap.size, 0, none⟩) m m] 273 (0, 0)) := by rw [← hW3]; exact heap_alloc_new _ _
  have hlr : (List.replicate m 0).length = m := List.length_replicate
  have HR := Lib.hid (show MarksAt W3 w2.heap.size w.heap.size n (fun _ => false) ∧ Below w.heap.size w W3 from ⟨⟨⟨List.replicate m 0, by rw [hlr]; exact hs3, by
    rw [hlr]
    have h5 : OwnX 197 1 wordV w2 w.heap.size (.slice (some ⟨w.heap.size, 0, none⟩) m m) (List.replicate m 0) := by unfold OwnX; rw [hlr]; exact hown2
    exact (h5.mono (Nat.zero_le _)).below hb3, by rw [← hm]; exact SetW.fresh n⟩, by omega, hn⟩, bl_trans hb2 hb3⟩)
  have hmx : max (n : Int) 0 = (n : Int) := by omega
  have hmxf : (if (n : Int) < 0 then (0 : Int) else (n : Int)) = (n : Int) := by split <;> omega
  have hmn : min (n : Int) 1048576 = (n : Int) := by omega
  have hmnf : (if (n : Int) ≤ 1048576 then (n : Int) else 1048576) = (n : Int) := by split <;> omega
  have hdv : ((n : Int) + 63) / 64 = (m : Int) := by omega
  have hdv2 : Int.tdiv ((n : Int) + 63) 64 = (m : Int) := by rw [Int.tdiv_eq_ediv_of_nonneg (by omega)]; exact hdv
  have HS := Lib.hid hsz; have HB2 := Lib.hid hb2.size; have HW3 := Lib.hid hW3
  clear hm hzc hown2 hg2 hb2 hsz hW3 hb3 hs3 hlr
  go_enter Tryz.func105, Tryz.ntmps105
  go_wp2_with fail
  rw [HW3.out]
  go_ret
  exact ⟨_, _, rfl, HR.out.1, HB2.out, Nat.le_refl _, HR.out.2⟩
set_option maxHeartbeats 2000000 in
set_option maxRecDepth 100000 in
theorem mPut {w : World} {s g size : Nat} {f : Nat → Bool} (h : MarksAt w s g size f) (n : Nat) (hn : n < size) :
    Calls Tryz.prog 110 #[.pointer (some ⟨s, 0, none⟩), .int .i64 (n : Nat)] w fun e w' => e = .returned (.bool (!f n)) ∧ MarksAt w' s g size (upd f n true) ∧ Upd (· = g) w w' := by
  have HS := Lib.hid (mSize h)
  have HH := Lib.hid (mHas h n hn)
  have hg1 : decide ((n : Int) < 0) = false := by simp
  have hg2 : decide ((n : Int) ≥ (size : Int)) = false := by simp; omega
  have hg3 : decide (size ≤ n) = false := by simp; omega
  obtain ⟨t, ht⟩ : ∃ t, f n = t := ⟨_, rfl⟩
  rw [ht] at HH ⊢
  cases t with
  | true =>
    have HM := Lib.hid (show MarksAt w s g size (upd f n true) from by
      have e : upd f n true = f := by
        funext x
        by_cases e : x = n
        · rw [e, upd_same, ht]
        · rw [upd_other _ _ e]
      rw [e]; exact h)
    clear h ht
    go_enter Tryz.func110, Tryz.ntmps110
    go_wp2_with fail
    (with_reducible refine HS.out.mono ?_)
    rintro e w1 ⟨rfl, rfl⟩
    go_wp2_with fail
    (with_reducible refine HH.out.mono ?_)
    rintro e w2 ⟨rfl, rfl⟩
    go_wp2
    go_ret
    exact ⟨rfl, HM.out, Upd.refl _ _⟩
  | false =>
    obtain ⟨⟨ws, a, b, c⟩, h3, h4⟩ := h
    obtain ⟨q, hq⟩ : ∃ q, n / 64 = q := ⟨_, rfl⟩
    obtain ⟨r, hr⟩ : ∃ r, n % 64 = r := ⟨_, rfl⟩
    have hql : q < ws.length := by rw [← hq]; exact c.word hn
    have hrl : r < 64 := by omega
    have hput := c.put hn
    rw [hq, hr] at hput
    have hlt := c.lt q
    have cw := word_at b hql
    have c1 : w.cell? ⟨s, 1, none⟩ = some (.slice (some ⟨g, 0, none⟩) ws.length ws.length) := by rw [cell_of_row _ _ _ _ _ _ a]; rfl
    have hfz := b.free q
    have hst := OwnX.put wordW b hql 0 (by decide) (.int .u64 ((ws.getD q 0 ||| 2 ^ r : Nat) : Int)) (ws.getD q 0 ||| 2 ^ r) rfl
    rw [Nat.mul_one, Nat.add_zero] at hst
    have hu : Upd (· = g) w (w.setCell ⟨g, q, none⟩ (.int .u64 ((ws.getD q 0 ||| 2 ^ r : Nat) : Int))) := (Upd.refl _ w).set _ _ _ (.inl rfl)
    have hm : MarksAt (w.setCell ⟨g, q, none⟩ (.int .u64 ((ws.getD q 0 ||| 2 ^ r : Nat) : Int))) s g size (upd f n true) := ⟨⟨_, by rw [heap_setCell_other _ _ _ _ h3, List.length_set]; exact a, by rw [List.length_set]; exact hst.1, hput⟩, h3, h4⟩
    have HM := Lib.hid hm; have HU := Lib.hid hu
    clear hst hput hm hu a b c ht
    generalize ws.getD q 0 = x at *
    generalize ws.length = m at *
    have hdv : (n : Int) / 64 = (q : Int) := by omega
    have hmd : (n : Int) % 64 = (r : Int) := by omega
    have hdv2 : Int.tdiv (n : Int) 64 = (q : Int) := by rw [Int.tdiv_eq_ediv_of_nonneg (by omega)]; exact hdv
    have hmd2 : Int.tmod (n : Int) 64 = (r : Int) := by rw [Int.tmod_eq_emod_of_nonneg (by omega)]; exact hmd
    have hp64 : 2 ^ r < 18446744073709551616 := Nat.pow_lt_pow_right (n := 64) (by decide) hrl
    have hsh : IntKind.u64.wrap ((2 : Int) ^ r) = ((2 ^ r : Nat) : Int) := by
      have e : ((2 : Int) ^ r) = ((2 ^ r : Nat) : Int) := by rw [Int.natCast_pow]; rfl
      rw [IntKind.wrap_u64, e]
      generalize 2 ^ r = y at *
      omega
    have hsh2 : IntKind.u64.wrap (1 * (2 : Int) ^ r) = ((2 ^ r : Nat) : Int) := by rw [Int.one_mul]; exact hsh
    generalize 2 ^ r = y at hsh hsh2 hp64 HM HU
    have hor : bits .or .u64 (x : Int) (y : Int) = ((x ||| y : Nat) : Int) := bits_or_u64_nat x y hlt hp64
    have hq0 : (q : Int) < (m : Int) := by omega
    clear hq hr
    go_enter Tryz.func110, Tryz.ntmps110
    go_wp2_with fail
    (with_reducible refine HS.out.mono ?_)
    rintro e w1 ⟨rfl, rfl⟩
    go_wp2_with fail
    (with_reducible refine HH.out.mono ?_)
    rintro e w2 ⟨rfl, rfl⟩
    go_wp2
    go_region
    go_wp2
    go_ret
    exact ⟨rfl, HM.out.stays rfl rfl, HU.out.drew⟩
end Go.Proofs.YtbhfbdcmamodcaaGreatDoor
namespace Go.Proofs.YtbhfbdcmamodcaaGreatDoor
open Go.RowKit LgMath
def entV (e : Nat × Nat) : List Value := [.int .i64 (e.1 : Nat), .int .u64 (e.2 : Nat)]
theorem entW : Wide entV 2 := fun _ => rfl
def aheadB (a b : Nat × Nat) : Bool := decide (b.1 < a.1) || (!decide (a.1 < b.1) && decide (a.2 < b.2))
theorem ahead_yes {a b : Nat × Nat} (h : aheadB a b = true) : b.1 ≤ a.1 := by
  unfold aheadB at h
  simp at h
  omega
theorem ahead_no {a b : Nat × Nat} (h : aheadB a b = false) : a.1 ≤ b.1 := by
  unfold aheadB at h
  simp at h
  omega
structure qwAt (w : World) (q : Nat) (v : Value) (l : List (Nat × Nat)) : Prop where
  box : ∃ k : Nat, k < 18446744073709551616 ∧ w.heap[q]? = some (.cells #[v, .int .u64 (k : Nat)] 199 (0, 0))
  own : OwnX 201 2 entV w 0 v l
  ne : v.ownBlock ≠ some q
  heap : HeapF l.length (keyL l)
section
variable {w w' : World} {q : Nat} {v : Value} {l : List (Nat × Nat)}
theorem qwAt.stays (h : qwAt w q v l) (h1 : w'.heap[q]? = w.heap[q]?) (h2 : ∀ j, v.ownBlock = some j → w'.heap[j]? = w.heap[j]?) : qwAt w' q v l := by
  obtain ⟨⟨k, hk, a⟩, b, c, d⟩ := h
  exact ⟨⟨k, hk, h1.trans a⟩, b.stays h2, c, d⟩
theorem qwAt.lt (h : qwAt w q v l) : q < w.heap.size ∧ ∀ j, v.ownBlock = some j → j < w.heap.size := by
  obtain ⟨⟨k, hk, a⟩, b, c, d⟩ := h
  exact ⟨(Array.getElem?_eq_some_iff.1 a).1, fun j e => (b.lt j e).2⟩
theorem qwAt.below (h : qwAt w q v l) (hb : Below w.heap.size w w') : qwAt w' q v l :=
  h.stays (hb.block _ h.lt.1) fun j e => hb.block _ (h.lt.2 j e)
theorem qwAt.upd {F : Foot} (h : qwAt w q v l) (hu : Upd F w w') (h1 : ¬ F q) (h2 : ∀ j, v.ownBlock = some j → ¬ F j) : qwAt w' q v l :=
  h.stays (hu.block _ h.lt.1 h1) fun j e => hu.block _ (h.lt.2 j e) (h2 j e)
end
theorem qwMethod (n : Nat) (x : Int) (W : World) : (method (n + 1) 119 (.int .i64 x) "Before").run Tryz.prog W = .ok (299, .int .i64 x) W := by kernel_rfl
theorem qwBefore (x y : Nat) (w : World) : Calls Tryz.prog 299 #[.int .i64 (x : Nat), .int .i64 (y : Nat)] w fun e w' => e = .returned (.bool (decide (y < x))) ∧ w' = w := by
  have h1 : decide ((x : Int) > (y : Int)) = decide (y < x) := by rw [Bool.eq_iff_iff, decide_eq_true_iff, decide_eq_true_iff]; omega
  have h2 : decide ((y : Int) < (x : Int)) = decide (y < x) := by rw [Bool.eq_iff_iff, decide_eq_true_iff, decide_eq_true_iff]; omega
  go_enter Tryz.func299, Tryz.ntmps299
  go_wp2
  go_ret
  first | exact ⟨rfl, rfl⟩ | simp
set_option maxHeartbeats 1000000 in
set_option maxRecDepth 100000 in
theorem qwAhead (a b : Nat × Nat) (w : World) : Calls Tryz.prog 175 #[.agg (entV a).toArray, .agg (entV b).toArray] w fun e w' => e = .returned (.bool (aheadB a b)) ∧ Below w.heap.size w w' := by
  obtain ⟨x, m⟩ := a
  obtain ⟨y, n⟩ := b
  obtain ⟨W2, hW2⟩ : ∃ W2, (w.alloc (.cells #[.int .i64 (x : Nat), .int .u64 (m : Nat)] 201)).alloc (.cells #[.int .i64 (y : Nat), .int .u64 (n : Nat)] 201) = W2 := ⟨_, rfl⟩
  have hb2 : Below w.heap.size w W2 := by rw [← hW2]; exact bl_alloc (bl_alloc (Below.refl _ _) _) _
  have r1 := heap_alloc2_old w (.cells #[.int .i64 (x : Nat), .int .u64 (m : Nat)] 201) (.cells #[.int .i64 (y : Nat), .int .u64 (n : Nat)] 201)
  have r2 := heap_alloc2_new w (.cells #[.int .i64 (x : Nat), .int .u64 (m : Nat)] 201) (.cells #[.int .i64 (y : Nat), .int .u64 (n : Nat)] 201)
  rw [hW2] at r1 r2
  have c0 : W2.cell? ⟨w.heap.size, 0, none⟩ = some (.int .i64 (x : Nat)) := by rw [cell_of_row _ _ _ _ _ _ r1]; rfl
  have c1 : W2.cell? ⟨w.heap.size, 1, none⟩ = some (.int .u64 (m : Nat)) := by rw [cell_of_row _ _ _ _ _ _ r1]; rfl
  have d0 : W2.cell? ⟨w.heap.size + 1, 0, none⟩ = some (.int .i64 (y : Nat)) := by rw [cell_of_row _ _ _ _ _ _ r2]; rfl
  have d1 : W2.cell? ⟨w.heap.size + 1, 1, none⟩ = some (.int .u64 (n : Nat)) := by rw [cell_of_row _ _ _ _ _ _ r2]; rfl
  have HB1 := Lib.hid (qwBefore x y W2)
  have HB2 := Lib.hid (qwBefore y x W2)
  have hm := qwMethod
  have HB := Lib.hid hb2; have HW2 := Lib.hid hW2
  clear r1 r2 hb2 hW2
  unfold entV
  by_cases h1 : y < x
  · have e1 : decide (y < x) = true := decide_eq_true h1
    rw [e1] at HB1
    go_enter Tryz.func175, Tryz.ntmps175
    go_wp2_with fail
    rw [HW2.out]
    go_wp2_with fail
    (with_reducible refine HB1.out.mono ?_)
    rintro e w1 ⟨rfl, rfl⟩
    go_wp2
    go_ret
    exact ⟨by rw [aheadB, e1]; rfl, HB.out⟩
  · have e1 : decide (y < x) = false := decide_eq_false h1
    rw [e1] at HB1
    by_cases h2 : x < y
    · have e2 : decide (x < y) = true := decide_eq_true h2
      rw [e2] at HB2
      go_enter Tryz.func175, Tryz.ntmps175
      go_wp2_with fail
      rw [HW2.out]
      go_wp2_with fail
      (with_reducible refine HB1.out.mono ?_)
      rintro e w1 ⟨rfl, rfl⟩
      go_wp2_with fail
      (with_reducible refine HB2.out.mono ?_)
      rintro e w1 ⟨rfl, rfl⟩
      go_wp2
      go_ret
      exact ⟨by rw [aheadB, e1, e2]; rfl, HB.out⟩
    · have e2 : decide (x < y) = false := decide_eq_false h2
      rw [e2] at HB2
      go_enter Tryz.func175, Tryz.ntmps175
      go_wp2_with fail
      rw [HW2.out]
      go_wp2_with fail
      (with_reducible refine HB1.out.mono ?_)
      rintro e w1 ⟨rfl, rfl⟩
      go_wp2_with fail
      (with_reducible refine HB2.out.mono ?_)
      rintro e w1 ⟨rfl, rfl⟩
      go_wp2
      go_ret
      exact ⟨by rw [aheadB, e1, e2]; first | rfl | simp, HB.out⟩
set_option maxRecDepth 100000 in
theorem qwLen {w : World} {q : Nat} {v : Value} {l : List (Nat × Nat)} (h : qwAt w q v l) : Calls Tryz.prog 174 #[.pointer (some ⟨q, 0, none⟩)] w fun e w' => e = .returned (.int .i64 (l.length : Nat)) ∧ w' = w := by
  obtain ⟨⟨k, hk, a⟩, b, c, d⟩ := h
  obtain ⟨sa, sc, rfl, _⟩ := b.sl
  have c0 : w.cell? ⟨q, 0, none⟩ = some (.slice sa l.length sc) := by rw [cell_of_row _ _ _ _ _ _ a]; rfl
  clear a b c d
  go_enter Tryz.func174, Tryz.ntmps174
  go_wp2
  go_ret
  trivial
set_option maxRecDepth 100000 in
theorem qwPeekNone {w : World} {q : Nat} {v : Value} (h : qwAt w q v []) : Calls Tryz.prog 107 #[.pointer (some ⟨q, 0, none⟩)] w fun e w' => e = .returned (.tuple #[.int .i64 0, .bool false]) ∧ w' = w := by
  have HL := Lib.hid (qwLen h)
  clear h
  go_enter Tryz.func107, Tryz.ntmps107
  go_wp2_with fail
  (with_reducible refine HL.out.mono ?_)
  rintro e w1 ⟨rfl, rfl⟩
  go_wp2
  exact bodyPost_ret (v := .tuple #[.int .i64 0, .bool false]) (by simp [results, Tryz.results107, go_sem]) rfl ⟨rfl, rfl⟩
theorem qwAt.cells {w : World} {q g c : Nat} {l : List (Nat × Nat)} (h : qwAt w q (.slice (some ⟨g, 0, none⟩) l.length c) l) {i : Nat} (hi : i < l.length) : w.cell? ⟨g, i * 2, none⟩ = some (.int .i64 ((l.getD i (0, 0)).1 : Nat)) ∧ w.cell? ⟨g, i * 2 + 1, none⟩ = some (.int .u64 ((l.getD i (0, 0)).2 : Nat)) := by
  obtain ⟨sa, sc, e, hc, _⟩ := h.own.sl
  obtain ⟨rfl, _, _⟩ := Value.slice.inj e
  obtain ⟨b, off, e1, _, e3⟩ := hc.elem entW hi (by decide)
  cases e1
  have h0 := e3 0 _ rfl
  have h1 := e3 1 _ rfl
  simp only [Nat.zero_add, Nat.add_zero] at h0 h1
  rw [List.getD_eq_getElem?_getD, List.getElem?_eq_getElem hi]
  exact ⟨h0, h1⟩
set_option maxRecDepth 100000 in
theorem qwPeek {w : World} {q : Nat} {v : Value} {l : List (Nat × Nat)} (h : qwAt w q v l) (h0 : 0 < l.length) : Calls Tryz.prog 107 #[.pointer (some ⟨q, 0, none⟩)] w fun e w' => e = .returned (.tuple #[.int .i64 (keyL l 0 : Nat), .bool true]) ∧ w' = w := by
  have HL := Lib.hid (qwLen h)
  obtain ⟨g, c, rfl, _, hgl, _, _⟩ := h.own.form h0
  obtain ⟨e0, _⟩ := h.cells h0
  obtain ⟨⟨k, hk, a⟩, _⟩ := h
  have c0 : w.cell? ⟨q, 0, none⟩ = some (.slice (some ⟨g, 0, none⟩) l.length c) := by rw [cell_of_row _ _ _ _ _ _ a]; rfl
  have hd : ((l.length : Int) == 0) = false := by rw [beq_eq_false_iff_ne]; omega
  have hd2 : ¬ (l.length : Int) = 0 := by omega
  have hlt : (0 : Int) < (l.length : Int) := by omega
  rw [Nat.zero_mul] at e0
  unfold keyL
  generalize (l.getD 0 (0, 0)).1 = x at *
  generalize l.length = m at *
  clear a hk
  go_enter Tryz.func107, Tryz.ntmps107
  go_wp2_with fail
  (with_reducible refine HL.out.mono ?_)
  rintro e w1 ⟨rfl, rfl⟩
  go_wp2
  exact bodyPost_ret (v := .tuple #[.int .i64 (x : Nat), .bool true]) (by simp [results, Tryz.results107, go_sem]) rfl ⟨rfl, rfl⟩
end Go.Proofs.YtbhfbdcmamodcaaGreatDoor
namespace Go.Proofs.YtbhfbdcmamodcaaGreatDoor
open Go.RowKit LgMath
theorem qwInfo : (Tryz.prog.info? 201).map (fun i => (i.zero, i.size, i.bytes)) = some (some (.agg #[.int .i64 0, .int .u64 0]), 2, 16) := by kernel_rfl
structure qwRow (w : World) (q g c : Nat) (l : List (Nat × Nat)) : Prop where
  box : ∃ k : Nat, k < 18446744073709551616 ∧ w.heap[q]? = some (.cells #[.slice (some ⟨g, 0, none⟩) l.length c, .int .u64 (k : Nat)] 199 (0, 0))
  own : OwnX 201 2 entV w 0 (.slice (some ⟨g, 0, none⟩) l.length c) l
  ne : g ≠ q
section
variable {w w' : World} {q g c : Nat} {l : List (Nat × Nat)}
theorem qwRow.stays (h : qwRow w q g c l) (h1 : w'.heap[q]? = w.heap[q]?) (h2 : w'.heap[g]? = w.heap[g]?) : qwRow w' q g c l := by
  obtain ⟨⟨k, hk, a⟩, b, d⟩ := h
  exact ⟨⟨k, hk, h1.trans a⟩, b.stays (fun j e => by simp [Value.ownBlock] at e; subst e; exact h2), d⟩
theorem qwRow.lt (h : qwRow w q g c l) : q < w.heap.size ∧ g < w.heap.size := by
  obtain ⟨⟨k, hk, a⟩, b, d⟩ := h
  exact ⟨(Array.getElem?_eq_some_iff.1 a).1, (b.lt g rfl).2⟩
theorem qwRow.below (h : qwRow w q g c l) (hb : Below w.heap.size w w') : qwRow w' q g c l := h.stays (hb.block _ h.lt.1) (hb.block _ h.lt.2)
theorem qwRow.cells (h : qwRow w q g c l) {i : Nat} (hi : i < l.length) : w.cell? ⟨g, i * 2, none⟩ = some (.int .i64 ((l.getD i (0, 0)).1 : Nat)) ∧ w.cell? ⟨g, i * 2 + 1, none⟩ = some (.int .u64 ((l.getD i (0, 0)).2 : Nat)) := by
  obtain ⟨sa, sc, e, hc, _⟩ := h.own.sl
  obtain ⟨rfl, _, _⟩ := Value.slice.inj e
  obtain ⟨b, off, e1, _, e3⟩ := hc.elem entW hi (by decide)
  cases e1
  have h0 := e3 0 _ rfl
  have h1 := e3 1 _ rfl
  simp only [Nat.zero_add, Nat.add_zero] at h0 h1
  rw [List.getD_eq_getElem?_getD, List.getElem?_eq_getElem hi]
  exact ⟨h0, h1⟩
theorem qwRow.at0 (h : qwRow w q g c l) : w.cell? ⟨q, 0, none⟩ = some (.slice (some ⟨g, 0, none⟩) l.length c) := by
  obtain ⟨⟨k, hk, a⟩, _⟩ := h
  rw [cell_of_row _ _ _ _ _ _ a]; rfl
theorem qwRow.put (h : qwRow w q g c l) {i : Nat} (hi : i < l.length) (x : Nat × Nat) : qwRow ((w.setCell ⟨g, i * 2, none⟩ (.int .i64 (x.1 : Nat))).setCell ⟨g, i * 2 + 1, none⟩ (.int .u64 (x.2 : Nat))) q g c (l.set i x) := by
  obtain ⟨a, b, d⟩ := h
  have h1 := (OwnX.put entW b hi 0 (by decide) (.int .i64 (x.1 : Nat)) (x.1, l[i].2) rfl).1
  rw [Nat.add_zero] at h1
  have hl1 : (l.set i (x.1, l[i].2)).length = l.length := List.length_set
  have h2 := (OwnX.put (l := l.set i (x.1, l[i].2)) entW (by rw [hl1]; exact h1) (i := i) (by rw [hl1]; exact hi) 1 (by decide) (.int .u64 (x.2 : Nat)) x (by rw [List.getElem_set_self]; rfl)).1
  rw [List.set_set, hl1] at h2
  obtain ⟨k, hk, a⟩ := a
  refine ⟨⟨k, hk, ?_⟩, ?_, d⟩
  · rw [heap_setCell_other _ _ _ _ (by exact fun e => d e.symm), heap_setCell_other _ _ _ _ (by exact fun e => d e.symm), List.length_set]
    exact a
  · rw [List.length_set]; exact h2
theorem qwRow.upd (h : qwRow w q g c l) {F : Foot} {w0 : World} (hu : Upd F w0 w) (hg : F g ∨ w0.heap.size ≤ g) (i : Nat) (u v : Value) : Upd F w0 ((w.setCell ⟨g, i * 2, none⟩ u).setCell ⟨g, i * 2 + 1, none⟩ v) := (hu.set _ _ _ hg).set _ _ _ hg
end
def qwSwp (w : World) (g i j : Nat) (x y : Nat × Nat) : World := ((((w.setCell ⟨g, i * 2, none⟩ (.int .i64 (x.1 : Nat))).setCell ⟨g, i * 2 + 1, none⟩ (.int .u64 (x.2 : Nat))).setCell ⟨g, j * 2, none⟩ (.int .i64 (y.1 : Nat))).setCell ⟨g, j * 2 + 1, none⟩ (.int .u64 (y.2 : Nat)))
theorem qwRow.swap {w : World} {q g c : Nat} {l : List (Nat × Nat)} (h : qwRow w q g c l) {i j : Nat} (hi : i < l.length) (hj : j < l.length) :
    qwRow (qwSwp w g i j (l.getD j (0, 0)) (l.getD i (0, 0))) q g c (swapL l i j) := by
  have h1 := (h.put hi (l.getD j (0, 0))).put (i := j) (by rw [List.length_set]; exact hj) (l.getD i (0, 0))
  exact h1
end Go.Proofs.YtbhfbdcmamodcaaGreatDoor
namespace Go.Proofs.YtbhfbdcmamodcaaGreatDoor
open Go.RowKit
abbrev Link := Nat × Nat × Nat
def linkV (x : Link) : List Value := [.int .i64 (x.1 : Nat), .int .i64 (x.2.1 : Nat), .int .u32 (x.2.2 : Nat)]
theorem linkW : Wide linkV 3 := fun _ => rfl
theorem link_one (l : List Link) : ∀ u ∈ l.flatMap linkV, u.oneCell' = true := by
  intro u hu
  obtain ⟨x, _, hx⟩ := List.mem_flatMap.1 hu
  simp [linkV] at hx
  rcases hx with rfl | rfl | rfl <;> rfl
theorem link_cells {w : World} {a : Option Addr} {l : List Link} (h : CellsAt w a (l.flatMap linkV)) {k : Nat} (hk : k < l.length) :
    ∃ b off, a = some ⟨b, off, none⟩ ∧ b < w.heap.size ∧ w.cell? ⟨b, off + k * 3, none⟩ = some (.int .i64 (l[k].1 : Nat)) ∧ w.cell? ⟨b, off + k * 3 + 1, none⟩ = some (.int .i64 (l[k].2.1 : Nat)) ∧ w.cell? ⟨b, off + k * 3 + 2, none⟩ = some (.int .u32 (l[k].2.2 : Nat)) := by
  obtain ⟨b, off, h1, h2, h3⟩ := h.elem linkW hk (by decide)
  exact ⟨b, off, h1, h2, h3 0 _ rfl, h3 1 _ rfl, h3 2 _ rfl⟩
def totalL (l : List Link) : Nat := (l.map (·.2.1)).sum
theorem total_take {l : List Link} {k : Nat} (h : k < l.length) : totalL (l.take (k + 1)) = totalL (l.take k) + l[k].2.1 := by
  unfold totalL
  rw [List.take_succ_eq_append_getElem h, List.map_append, List.sum_append]
  simp only [List.map_cons, List.map_nil, List.sum_cons, List.sum_nil]
  omega
theorem total_take_le (l : List Link) : ∀ k, totalL (l.take k) ≤ totalL l := by
  intro k
  have := congrArg totalL (List.take_append_drop k l)
  simp only [totalL, List.map_append, List.sum_append] at this ⊢
  omega
theorem lcNumbered (n : Nat) (h : n ≤ 1073741824) (w : World) : Calls Tryz.prog 148 #[.int .i64 n] w fun e w' => e = .returned (.bool true) ∧ w = w' := by
  have h1 : decide ((0 : Int) ≤ (n : Int)) = true := by simp
  have h2 : decide ((n : Int) ≤ 1073741824) = true := by simp; omega
  go_enter Tryz.func148, Tryz.ntmps148
  go_wp2
  go_ret
  exact ⟨rfl, rfl⟩
set_option maxHeartbeats 1000000 in
set_option maxRecDepth 100000 in
theorem lcTotal (l : List Link) (hl : l.length ≤ 1000000) (ht : totalL l ≤ 4611686018427387904) (a : Option Addr) (c : Nat) (w : World) (h : CellsAt w a (l.flatMap linkV)) :
    Calls Tryz.prog 44 #[.slice a l.length c] w fun e w' => e = .returned (.int .i64 (totalL l : Nat)) ∧ Below w.heap.size w w' := by
  have HA := Lib.hid h
  have HT := Lib.hid (total_take_le l)
  clear h
  go_enter Tryz.func44, Tryz.ntmps44
  go_wp2
  go_loopw [3, 8] (fun nv iv wr => ∃ k : Nat, k ≤ l.length ∧ iv = .int .i64 k ∧ nv = .int .i64 (totalL (l.take k) : Nat) ∧ Below w.heap.size w wr) (fun _ iv _ => l.length - (intOf iv).toNat)
  case atStart => exact ⟨0, Nat.zero_le _, rfl, rfl, Below.refl _ _⟩
  case round =>
    obtain ⟨k, hk, rfl, rfl, hbel⟩ := hrel
    have HB := Lib.hid hbel
    clear hbel
    by_cases hlt : k < l.length
    · obtain ⟨b, off, rfl, _, p1, p2, p3⟩ := link_cells (HA.out.below HB.out) hlt
      obtain ⟨x, hx⟩ : ∃ x, l[k] = x := ⟨_, rfl⟩
      have hs := total_take hlt
      have hb2 := HT.out (k + 1)
      rw [hx] at p1 p2 p3 hs
      obtain ⟨g, hg⟩ : ∃ g, totalL (l.take k) = g := ⟨_, rfl⟩
      rw [hg] at hs
      rw [hg]
      obtain ⟨m, y, z⟩ := x
      simp only at p1 p2 p3 hs
      rw [hs] at hb2
      have HS := Lib.hid hs
      clear hx hg hs
      go_wp2
      go_roundw
      case rel => exact ⟨k + 1, by omega, by go_num, by rw [HS.out]; go_num, bl_alloc HB.out _⟩
      case measure => simp [intOf]; omega
    · have htk : l.take k = l := List.take_of_length_le (by omega)
      rw [htk]
      clear htk
      go_wp2
      go_ret
      exact ⟨rfl, HB.out⟩
end Go.Proofs.YtbhfbdcmamodcaaGreatDoor
namespace Go.Proofs.YtbhfbdcmamodcaaGreatDoor
open Go.RowKit
theorem ckNum (x : Link) (p n : Nat) (w : World) (hc : w.cell? ⟨p, 0, none⟩ = some (.int .i64 (n : Nat))) :
    Calls Tryz.prog 192 #[.agg #[.int .i64 (x.1 : Nat), .int .i64 (x.2.1 : Nat), .int .u32 (x.2.2 : Nat)], .pointer (some ⟨p, 0, none⟩)] w fun e w' => e = .returned (.bool (decide (x.1 = n))) ∧ Below w.heap.size w w' := by
  have hw : ∀ o, (w.alloc o).cell? ⟨p, 0, none⟩ = some (.int .i64 (n : Nat)) := fun o => cell_al hc o
  have hd : ((x.1 : Int) == (n : Int)) = decide (x.1 = n) := by rw [Bool.eq_iff_iff]; simp; omega
  go_enter Tryz.func192, Tryz.ntmps192
  go_wp2
  go_ret
  exact ⟨by first | rfl | simp, bl_alloc (Below.refl _ w) _⟩
theorem layNum (x : Link) (p n : Nat) (w : World) (hc : w.cell? ⟨p, 0, none⟩ = some (.int .i64 (n : Nat))) :
    Calls Tryz.prog 98 #[.agg #[.int .i64 (x.1 : Nat), .int .i64 (x.2.1 : Nat), .int .u32 (x.2.2 : Nat)], .pointer (some ⟨p, 0, none⟩)] w fun e w' => e = .returned (.bool (decide (x.1 = n))) ∧ Below w.heap.size w w' := by
  have hw : ∀ o, (w.alloc o).cell? ⟨p, 0, none⟩ = some (.int .i64 (n : Nat)) := fun o => cell_al hc o
  have hd : ((x.1 : Int) == (n : Int)) = decide (x.1 = n) := by rw [Bool.eq_iff_iff]; simp; omega
  go_enter Tryz.func98, Tryz.ntmps98
  go_wp2
  go_ret
  exact ⟨by first | rfl | simp, bl_alloc (Below.refl _ w) _⟩
set_option maxHeartbeats 1000000 in
set_option maxRecDepth 100000 in
theorem ckLinkIdx (P : Link → Bool) (cap : Value) (l : List Link) (a : Option Addr) (c : Nat) (hl : l.length ≤ maxLen) (w : World) (h : CellsAt w a (l.flatMap linkV))
    (hc : ∀ x ∈ l, ∀ W, Below w.heap.size w W → Calls Tryz.prog 192 #[.agg #[.int .i64 (x.1 : Nat), .int .i64 (x.2.1 : Nat), .int .u32 (x.2.2 : Nat)], cap] W fun e w' => e = .returned (.bool (P x)) ∧ Below W.heap.size W w') :
    Calls Tryz.prog 160 #[.slice a l.length c, .func (.func 192) #[] #[cap]] w fun e w' => (∃ k : Int, e = .returned (.int .i64 k) ∧ decide (0 ≤ k) = l.any P) ∧ Below w.heap.size w w' := by
  unfold maxLen at hl
  have HA := Lib.hid h
  have HC := Lib.hid hc
  clear h hc
  go_enter Tryz.func160, Tryz.ntmps160
  go_wp2
  go_loopw [8] (fun iv wr => ∃ k : Nat, k ≤ l.length ∧ iv = .int .i64 k ∧ (∀ i (h : i < l.length), i < k → P l[i] = false) ∧ Below w.heap.size w wr) (fun iv _ => l.length - (intOf iv).toNat)
  case atStart => exact ⟨0, Nat.zero_le _, rfl, fun i _ h => absurd h (Nat.not_lt_zero _), Below.refl _ _⟩
  case round =>
    obtain ⟨k, hk, rfl, hn, hb⟩ := hrel
    have HN := Lib.hid hn; have HB := Lib.hid hb
    clear hn hb
    by_cases hlt : k < l.length
    · obtain ⟨b, off, rfl, _, p1, p2, p3⟩ := link_cells (HA.out.below HB.out) hlt
      have HCx := Lib.hid (fun W hW => HC.out l[k] (List.getElem_mem hlt) W hW)
      obtain ⟨x, hx⟩ : ∃ x, l[k] = x := ⟨_, rfl⟩
      rw [hx] at p1 p2 p3 HCx
      have HX := Lib.hid hx
      clear hx
      obtain ⟨r, hr⟩ : ∃ r, P x = r := ⟨_, rfl⟩
      rw [hr] at HCx
      have HR := Lib.hid hr
      clear hr
      cases r with
      | true =>
        go_wp2_with (go_at_call 192; (with_reducible refine (HCx.out _ HB.out).mono ?_); rintro e w2 ⟨rfl, hb⟩; have HB2 := Lib.hid (bl_trans HB.out hb); clear hb)
        go_ret
        refine ⟨⟨_, rfl, ?_⟩, HB2.out⟩
        have : l.any P = true := List.any_eq_true.2 ⟨l[k], List.getElem_mem hlt, by rw [HX.out]; exact HR.out⟩
        rw [this]; simp
      | false =>
        go_wp2_with (go_at_call 192; (with_reducible refine (HCx.out _ HB.out).mono ?_); rintro e w2 ⟨rfl, hb⟩; have HB2 := Lib.hid (bl_trans HB.out hb); clear hb)
        go_roundw
        case rel => exact ⟨k + 1, by omega, by go_num, fun i hi h => by
          rcases Nat.lt_or_ge i k with h1 | h1
          · exact HN.out i hi h1
          · obtain rfl : i = k := by omega
            rw [HX.out]; exact HR.out, HB2.out⟩
        case measure => simp [intOf]; omega
    · obtain rfl : k = l.length := by omega
      go_wp2
      go_ret
      refine ⟨⟨_, rfl, ?_⟩, HB.out⟩
      have : l.any P = false := by
        rw [List.any_eq_false]
        intro x hx
        obtain ⟨i, hi, rfl⟩ := List.mem_iff_getElem.1 hx
        simpa using HN.out i hi hi
      rw [this]; simp
theorem ckLinkHas (P : Link → Bool) (cap : Value) (l : List Link) (a : Option Addr) (c : Nat) (hl : l.length ≤ maxLen) (w : World) (h : CellsAt w a (l.flatMap linkV))
    (hc : ∀ x ∈ l, ∀ W, Below w.heap.size w W → Calls Tryz.prog 192 #[.agg #[.int .i64 (x.1 : Nat), .int .i64 (x.2.1 : Nat), .int .u32 (x.2.2 : Nat)], cap] W fun e w' => e = .returned (.bool (P x)) ∧ Below W.heap.size W w') :
    Calls Tryz.prog 97 #[.slice a l.length c, .func (.func 192) #[] #[cap]] w fun e w' => e = .returned (.bool (l.any P)) ∧ Below w.heap.size w w' := by
  have HI := Lib.hid (ckLinkIdx P cap l a c hl w h hc)
  clear h hc
  go_enter Tryz.func97, Tryz.ntmps97
  go_wp2_with (go_at_call 160; (with_reducible refine HI.out.mono ?_); rintro e w2 ⟨⟨k, rfl, hk⟩, hb⟩; have HB := Lib.hid hb; clear hb)
  go_ret
  exact ⟨by rw [← hk]; rfl, HB.out⟩
set_option maxHeartbeats 1000000 in
set_option maxRecDepth 100000 in
theorem layLinkIdx (P : Link → Bool) (cap : Value) (l : List Link) (a : Option Addr) (c : Nat) (hl : l.length ≤ maxLen) (w : World) (h : CellsAt w a (l.flatMap linkV))
    (hc : ∀ x ∈ l, ∀ W, Below w.heap.size w W → Calls Tryz.prog 98 #[.agg #[.int .i64 (x.1 : Nat), .int .i64 (x.2.1 : Nat), .int .u32 (x.2.2 : Nat)], cap] W fun e w' => e = .returned (.bool (P x)) ∧ Below W.heap.size W w') :
    Calls Tryz.prog 160 #[.slice a l.length c, .func (.func 98) #[] #[cap]] w fun e w' => (∃ k : Int, e = .returned (.int .i64 k) ∧ decide (0 ≤ k) = l.any P) ∧ Below w.heap.size w w' := by
  unfold maxLen at hl
  have HA := Lib.hid h
  have HC := Lib.hid hc
  clear h hc
  go_enter Tryz.func160, Tryz.ntmps160
  go_wp2
  go_loopw [8] (fun iv wr => ∃ k : Nat, k ≤ l.length ∧ iv = .int .i64 k ∧ (∀ i (h : i < l.length), i < k → P l[i] = false) ∧ Below w.heap.size w wr) (fun iv _ => l.length - (intOf iv).toNat)
  case atStart => exact ⟨0, Nat.zero_le _, rfl, fun i _ h => absurd h (Nat.not_lt_zero _), Below.refl _ _⟩
  case round =>
    obtain ⟨k, hk, rfl, hn, hb⟩ := hrel
    have HN := Lib.hid hn; have HB := Lib.hid hb
    clear hn hb
    by_cases hlt : k < l.length
    · obtain ⟨b, off, rfl, _, p1, p2, p3⟩ := link_cells (HA.out.below HB.out) hlt
      have HCx := Lib.hid (fun W hW => HC.out l[k] (List.getElem_mem hlt) W hW)
      obtain ⟨x, hx⟩ : ∃ x, l[k] = x := ⟨_, rfl⟩
      rw [hx] at p1 p2 p3 HCx
      have HX := Lib.hid hx
      clear hx
      obtain ⟨r, hr⟩ : ∃ r, P x = r := ⟨_, rfl⟩
      rw [hr] at HCx
      have HR := Lib.hid hr
      clear hr
      cases r with
      | true =>
        go_wp2_with (go_at_call 98; (with_reducible refine (HCx.out _ HB.out).mono ?_); rintro e w2 ⟨rfl, hb⟩; have HB2 := Lib.hid (bl_trans HB.out hb); clear hb)
        go_ret
        refine ⟨⟨_, rfl, ?_⟩, HB2.out⟩
        have : l.any P = true := List.any_eq_true.2 ⟨l[k], List.getElem_mem hlt, by rw [HX.out]; exact HR.out⟩
        rw [this]; simp
      | false =>
        go_wp2_with (go_at_call 98; (with_reducible refine (HCx.out _ HB.out).mono ?_); rintro e w2 ⟨rfl, hb⟩; have HB2 := Lib.hid (bl_trans HB.out hb); clear hb)
        go_roundw
        case rel => exact ⟨k + 1, by omega, by go_num, fun i hi h => by
          rcases Nat.lt_or_ge i k with h1 | h1
          · exact HN.out i hi h1
          · obtain rfl : i = k := by omega
            rw [HX.out]; exact HR.out, HB2.out⟩
        case measure => simp [intOf]; omega
    · obtain rfl : k = l.length := by omega
      go_wp2
      go_ret
      refine ⟨⟨_, rfl, ?_⟩, HB.out⟩
      have : l.any P = false := by
        rw [List.any_eq_false]
        intro x hx
        obtain ⟨i, hi, rfl⟩ := List.mem_iff_getElem.1 hx
        simpa using HN.out i hi hi
      rw [this]; simp
theorem layLinkHas (P : Link → Bool) (cap : Value) (l : List Link) (a : Option Addr) (c : Nat) (hl : l.length ≤ maxLen) (w : World) (h : CellsAt w a (l.flatMap linkV))
    (hc : ∀ x ∈ l, ∀ W, Below w.heap.size w W → Calls Tryz.prog 98 #[.agg #[.int .i64 (x.1 : Nat), .int .i64 (x.2.1 : Nat), .int .u32 (x.2.2 : Nat)], cap] W fun e w' => e = .returned (.bool (P x)) ∧ Below W.heap.size W w') :
    Calls Tryz.prog 97 #[.slice a l.length c, .func (.func 98) #[] #[cap]] w fun e w' => e = .returned (.bool (l.any P)) ∧ Below w.heap.size w w' := by
  have HI := Lib.hid (layLinkIdx P cap l a c hl w h hc)
  clear h hc
  go_enter Tryz.func97, Tryz.ntmps97
  go_wp2_with (go_at_call 160; (with_reducible refine HI.out.mono ?_); rintro e w2 ⟨⟨k, rfl, hk⟩, hb⟩; have HB := Lib.hid hb; clear hb)
  go_ret
  exact ⟨by rw [← hk]; rfl, HB.out⟩
end Go.Proofs.YtbhfbdcmamodcaaGreatDoor
namespace Go.Proofs.YtbhfbdcmamodcaaGreatDoor
open Go.RowKit
structure GoodChain (l : List Link) : Prop where
  len : l.length ≤ 8
  num : ∀ x ∈ l, x.1 ≤ 1073741824
  cnt : ∀ x ∈ l, 1 ≤ x.2.1 ∧ x.2.1 ≤ 65536
  sum : ∀ x ∈ l, x.2.2 < 4294967296
  alone : (l.map (·.1)).Nodup
  total : totalL l ≤ 65536
theorem GoodChain.new {l : List Link} (h : GoodChain l) {k : Nat} (hk : k < l.length) : (l.take k).any (fun x => decide (x.1 = l[k].1)) = false := by
  rw [List.any_eq_false]
  intro x hx
  obtain ⟨i, hi, rfl⟩ := List.mem_iff_getElem.1 hx
  simp only [List.length_take] at hi
  rw [List.getElem_take]
  simp only [decide_eq_true_eq]
  intro e
  have hn := List.nodup_iff_pairwise_ne.1 h.alone
  rw [List.pairwise_iff_getElem] at hn
  have := hn i k (by simp; omega) (by simpa using hk) (by omega)
  simp at this
  exact this e
set_option maxHeartbeats 2000000 in
set_option maxRecDepth 100000 in
theorem lcCheck (l : List Link) (hg : GoodChain l) (a : Option Addr) (c : Nat) (hlc : l.length ≤ c) (hcm : c ≤ maxLen) (w : World) (h : CellsAt w a (l.flatMap linkV)) :
    Calls Tryz.prog 136 #[.slice a l.length c] w fun e w' => e = .returned (.int .i64 0) ∧ Below w.heap.size w w' := by
  unfold maxLen at hcm
  have HA := Lib.hid h
  have HG := Lib.hid hg
  have hln := hg.len
  have h8 : decide ((l.length : Int) > 8) = false := by simp; omega
  clear h hg
  go_enter Tryz.func136, Tryz.ntmps136
  go_wp2
  go_loopw [10] (fun iv wr => ∃ k : Nat, k ≤ l.length ∧ iv = .int .i64 k ∧ Below w.heap.size w wr) (fun iv _ => l.length - (intOf iv).toNat)
  case atStart => exact ⟨0, Nat.zero_le _, rfl, Below.refl _ _⟩
  case round =>
    obtain ⟨k, hk, rfl, hb⟩ := hrel
    have HB := Lib.hid hb
    clear hb
    by_cases hlt : k < l.length
    · obtain ⟨b, off, rfl, _, p1, p2, p3⟩ := link_cells (HA.out.below HB.out) hlt
      have HN := Lib.hid (HG.out.new hlt)
      have hm := List.getElem_mem hlt
      have hnum := HG.out.num _ hm; have hc1 := (HG.out.cnt _ hm).1; have hc2 := (HG.out.cnt _ hm).2
      have htt := Nat.le_trans (total_take_le l (k + 1)) HG.out.total
      have HT := Lib.hid (fun W hW => lcTotal (l.take (k + 1)) (by rw [List.length_take]; omega) (by omega) (some ⟨b, off, none⟩) c W (hW : CellsAt W (some ⟨b, off, none⟩) ((l.take (k + 1)).flatMap linkV)))
      rw [show (l.take (k + 1)).length = k + 1 from by rw [List.length_take]; omega] at HT
      have hlk : (l.take k).length = k := by rw [List.length_take]; omega
      have HK := Lib.hid (fun p W hW => ckLinkHas (fun x => decide (x.1 = l[k].1)) (.pointer (some ⟨p, 0, none⟩)) (l.take k) (some ⟨b, off, none⟩) c (by rw [hlk]; unfold maxLen; omega) W (hW : CellsAt W (some ⟨b, off, none⟩) ((l.take k).flatMap linkV)))
      rw [hlk, HN.out] at HK
      clear hm HN hlk
      obtain ⟨x, hx⟩ : ∃ x, l[k] = x := ⟨_, rfl⟩
      rw [hx] at p1 p2 p3 hnum hc1 hc2 HK
      obtain ⟨m, y, z⟩ := x
      simp only at p1 p2 p3 hnum hc1 hc2 HK
      have hd1 : decide ((y : Int) < 1) = false := by simp; omega
      have hd2 : decide ((y : Int) > 65536) = false := by simp; omega
      obtain ⟨t, ht⟩ : ∃ t, totalL (l.take (k + 1)) = t := ⟨_, rfl⟩
      rw [ht] at htt HT
      have hd3 : decide ((t : Int) > 65536) = false := by simp; omega
      have HNum := Lib.hid (fun W => lcNumbered m hnum W)
      obtain ⟨W1, hW1⟩ : ∃ W1, wr.alloc (.cells #[.int .i64 (m : Nat), .int .i64 (y : Nat), .int .u32 (z : Nat)] 149) = W1 := ⟨_, rfl⟩
      have hB1 : Below w.heap.size w W1 := by rw [← hW1]; exact bl_alloc HB.out _
      have q1 : W1.cell? ⟨wr.heap.size, 0, none⟩ = some (.int .i64 (m : Nat)) := by rw [← hW1, World.cell?_alloc_new]; rfl
      have q2 : W1.cell? ⟨wr.heap.size, 1, none⟩ = some (.int .i64 (y : Nat)) := by rw [← hW1, World.cell?_alloc_mark]; rfl
      have HW1 := Lib.hid hW1; have HB1 := Lib.hid hB1; have HQ := Lib.hid q1
      clear hx ht hW1 hB1 hnum hc1 hc2 htt
      go_wp2_with fail
      rw [HW1.out]
      go_wp2_with fail
      (with_reducible refine (HNum.out W1).mono ?_)
      rintro e w2 ⟨rfl, rfl⟩
      go_wp2_with fail
      (with_reducible refine (HK.out wr.heap.size W1 ((HA.out.below HB1.out).take k) ?_).mono ?_)
      · intro x hx W hW
        exact ckNum x wr.heap.size m W (bl_cell hW HQ.out)
      rintro e w2 ⟨rfl, hb⟩
      have HB2 := Lib.hid (bl_trans HB1.out hb)
      clear hb
      go_wp2_with fail
      (with_reducible refine (HT.out w2 ((HA.out.below HB2.out).take (k + 1))).mono ?_)
      rintro e w3 ⟨rfl, hb⟩
      have HB3 := Lib.hid (bl_trans HB2.out hb)
      clear hb
      go_wp2
      go_roundw
      case rel => exact ⟨k + 1, by omega, by go_num, HB3.out⟩
      case measure => simp [intOf]; omega
    · go_wp2
      go_ret
      exact ⟨rfl, HB.out⟩
end Go.Proofs.YtbhfbdcmamodcaaGreatDoor
namespace Go.Proofs.YtbhfbdcmamodcaaGreatDoor
open Go.RowKit LgMath
structure qbAt (w : World) (q : Nat) (v : Value) (l : List (Nat × Nat)) : Prop where
  box : ∃ k : Nat, k < 18446744073709551616 ∧ w.heap[q]? = some (.cells #[v, .int .u64 (k : Nat)] 279 (0, 0))
  own : OwnX 322 2 entV w 0 v l
  ne : v.ownBlock ≠ some q
  heap : HeapF l.length (keyL l)
section
variable {w w' : World} {q : Nat} {v : Value} {l : List (Nat × Nat)}
theorem qbAt.stays (h : qbAt w q v l) (h1 : w'.heap[q]? = w.heap[q]?) (h2 : ∀ j, v.ownBlock = some j → w'.heap[j]? = w.heap[j]?) : qbAt w' q v l := by
  obtain ⟨⟨k, hk, a⟩, b, c, d⟩ := h
  exact ⟨⟨k, hk, h1.trans a⟩, b.stays h2, c, d⟩
theorem qbAt.lt (h : qbAt w q v l) : q < w.heap.size ∧ ∀ j, v.ownBlock = some j → j < w.heap.size := by
  obtain ⟨⟨k, hk, a⟩, b, c, d⟩ := h
  exact ⟨(Array.getElem?_eq_some_iff.1 a).1, fun j e => (b.lt j e).2⟩
theorem qbAt.below (h : qbAt w q v l) (hb : Below w.heap.size w w') : qbAt w' q v l :=
  h.stays (hb.block _ h.lt.1) fun j e => hb.block _ (h.lt.2 j e)
theorem qbAt.upd {F : Foot} (h : qbAt w q v l) (hu : Upd F w w') (h1 : ¬ F q) (h2 : ∀ j, v.ownBlock = some j → ¬ F j) : qbAt w' q v l :=
  h.stays (hu.block _ h.lt.1 h1) fun j e => hu.block _ (h.lt.2 j e) (h2 j e)
end
theorem qbMethod (n : Nat) (x : Int) (W : World) : (method (n + 1) 207 (.int .i64 x) "Before").run Tryz.prog W = .ok (301, .int .i64 x) W := by kernel_rfl
theorem qbBefore (x y : Nat) (w : World) : Calls Tryz.prog 301 #[.int .i64 (x : Nat), .int .i64 (y : Nat)] w fun e w' => e = .returned (.bool (decide (y < x))) ∧ w' = w := by
  have h1 : decide ((x : Int) > (y : Int)) = decide (y < x) := by rw [Bool.eq_iff_iff, decide_eq_true_iff, decide_eq_true_iff]; omega
  have h2 : decide ((y : Int) < (x : Int)) = decide (y < x) := by rw [Bool.eq_iff_iff, decide_eq_true_iff, decide_eq_true_iff]; omega
  go_enter Tryz.func301, Tryz.ntmps301
  go_wp2
  go_ret
  first | exact ⟨rfl, rfl⟩ | simp
set_option maxHeartbeats 1000000 in
set_option maxRecDepth 100000 in
theorem qbAhead (a b : Nat × Nat) (w : World) : Calls Tryz.prog 218 #[.agg (entV a).toArray, .agg (entV b).toArray] w fun e w' => e = .returned (.bool (aheadB a b)) ∧ Below w.heap.size w w' := by
  obtain ⟨x, m⟩ := a
  obtain ⟨y, n⟩ := b
  obtain ⟨W2, hW2⟩ : ∃ W2, (w.alloc (.cells #[.int .i64 (x : Nat), .int .u64 (m : Nat)] 322)).alloc (.cells #[.int .i64 (y : Nat), .int .u64 (n : Nat)] 322) = W2 := ⟨_, rfl⟩
  have hb2 : Below w.heap.size w W2 := by rw [← hW2]; exact bl_alloc (bl_alloc (Below.refl _ _) _) _
  have r1 := heap_alloc2_old w (.cells #[.int .i64 (x : Nat), .int .u64 (m : Nat)] 322) (.cells #[.int .i64 (y : Nat), .int .u64 (n : Nat)] 322)
  have r2 := heap_alloc2_new w (.cells #[.int .i64 (x : Nat), .int .u64 (m : Nat)] 322) (.cells #[.int .i64 (y : Nat), .int .u64 (n : Nat)] 322)
  rw [hW2] at r1 r2
  have c0 : W2.cell? ⟨w.heap.size, 0, none⟩ = some (.int .i64 (x : Nat)) := by rw [cell_of_row _ _ _ _ _ _ r1]; rfl
  have c1 : W2.cell? ⟨w.heap.size, 1, none⟩ = some (.int .u64 (m : Nat)) := by rw [cell_of_row _ _ _ _ _ _ r1]; rfl
  have d0 : W2.cell? ⟨w.heap.size + 1, 0, none⟩ = some (.int .i64 (y : Nat)) := by rw [cell_of_row _ _ _ _ _ _ r2]; rfl
  have d1 : W2.cell? ⟨w.heap.size + 1, 1, none⟩ = some (.int .u64 (n : Nat)) := by rw [cell_of_row _ _ _ _ _ _ r2]; rfl
  have HB1 := Lib.hid (qbBefore x y W2)
  have HB2 := Lib.hid (qbBefore y x W2)
  have hm := qbMethod
  have HB := Lib.hid hb2; have HW2 := Lib.hid hW2
  clear r1 r2 hb2 hW2
  unfold entV
  by_cases h1 : y < x
  · have e1 : decide (y < x) = true := decide_eq_true h1
    rw [e1] at HB1
    go_enter Tryz.func218, Tryz.ntmps218
    go_wp2_with fail
    rw [HW2.out]
    go_wp2_with fail
    (with_reducible refine HB1.out.mono ?_)
    rintro e w1 ⟨rfl, rfl⟩
    go_wp2
    go_ret
    exact ⟨by rw [aheadB, e1]; rfl, HB.out⟩
  · have e1 : decide (y < x) = false := decide_eq_false h1
    rw [e1] at HB1
    by_cases h2 : x < y
    · have e2 : decide (x < y) = true := decide_eq_true h2
      rw [e2] at HB2
      go_enter Tryz.func218, Tryz.ntmps218
      go_wp2_with fail
      rw [HW2.out]
      go_wp2_with fail
      (with_reducible refine HB1.out.mono ?_)
      rintro e w1 ⟨rfl, rfl⟩
      go_wp2_with fail
      (with_reducible refine HB2.out.mono ?_)
      rintro e w1 ⟨rfl, rfl⟩
      go_wp2
      go_ret
      exact ⟨by rw [aheadB, e1, e2]; rfl, HB.out⟩
    · have e2 : decide (x < y) = false := decide_eq_false h2
      rw [e2] at HB2
      go_enter Tryz.func218, Tryz.ntmps218
      go_wp2_with fail
      rw [HW2.out]
      go_wp2_with fail
      (with_reducible refine HB1.out.mono ?_)
      rintro e w1 ⟨rfl, rfl⟩
      go_wp2_with fail
      (with_reducible refine HB2.out.mono ?_)
      rintro e w1 ⟨rfl, rfl⟩
      go_wp2
      go_ret
      exact ⟨by rw [aheadB, e1, e2]; first | rfl | simp, HB.out⟩
set_option maxRecDepth 100000 in
theorem qbLen {w : World} {q : Nat} {v : Value} {l : List (Nat × Nat)} (h : qbAt w q v l) : Calls Tryz.prog 243 #[.pointer (some ⟨q, 0, none⟩)] w fun e w' => e = .returned (.int .i64 (l.length : Nat)) ∧ w' = w := by
  obtain ⟨⟨k, hk, a⟩, b, c, d⟩ := h
  obtain ⟨sa, sc, rfl, _⟩ := b.sl
  have c0 : w.cell? ⟨q, 0, none⟩ = some (.slice sa l.length sc) := by rw [cell_of_row _ _ _ _ _ _ a]; rfl
  clear a b c d
  go_enter Tryz.func243, Tryz.ntmps243
  go_wp2
  go_ret
  trivial
theorem qbAt.cells {w : World} {q g c : Nat} {l : List (Nat × Nat)} (h : qbAt w q (.slice (some ⟨g, 0, none⟩) l.length c) l) {i : Nat} (hi : i < l.length) : w.cell? ⟨g, i * 2, none⟩ = some (.int .i64 ((l.getD i (0, 0)).1 : Nat)) ∧ w.cell? ⟨g, i * 2 + 1, none⟩ = some (.int .u64 ((l.getD i (0, 0)).2 : Nat)) := by
  obtain ⟨sa, sc, e, hc, _⟩ := h.own.sl
  obtain ⟨rfl, _, _⟩ := Value.slice.inj e
  obtain ⟨b, off, e1, _, e3⟩ := hc.elem entW hi (by decide)
  cases e1
  have h0 := e3 0 _ rfl
  have h1 := e3 1 _ rfl
  simp only [Nat.zero_add, Nat.add_zero] at h0 h1
  rw [List.getD_eq_getElem?_getD, List.getElem?_eq_getElem hi]
  exact ⟨h0, h1⟩
set_option maxRecDepth 100000 in
theorem qbPeek {w : World} {q : Nat} {v : Value} {l : List (Nat × Nat)} (h : qbAt w q v l) (h0 : 0 < l.length) : Calls Tryz.prog 219 #[.pointer (some ⟨q, 0, none⟩)] w fun e w' => e = .returned (.tuple #[.int .i64 (keyL l 0 : Nat), .bool true]) ∧ w' = w := by
  have HL := Lib.hid (qbLen h)
  obtain ⟨g, c, rfl, _, hgl, _, _⟩ := h.own.form h0
  obtain ⟨e0, _⟩ := h.cells h0
  obtain ⟨⟨k, hk, a⟩, _⟩ := h
  have c0 : w.cell? ⟨q, 0, none⟩ = some (.slice (some ⟨g, 0, none⟩) l.length c) := by rw [cell_of_row _ _ _ _ _ _ a]; rfl
  have hd : ((l.length : Int) == 0) = false := by rw [beq_eq_false_iff_ne]; omega
  have hd2 : ¬ (l.length : Int) = 0 := by omega
  have hlt : (0 : Int) < (l.length : Int) := by omega
  rw [Nat.zero_mul] at e0
  unfold keyL
  generalize (l.getD 0 (0, 0)).1 = x at *
  generalize l.length = m at *
  clear a hk
  go_enter Tryz.func219, Tryz.ntmps219
  go_wp2_with fail
  (with_reducible refine HL.out.mono ?_)
  rintro e w1 ⟨rfl, rfl⟩
  go_wp2
  exact bodyPost_ret (v := .tuple #[.int .i64 (x : Nat), .bool true]) (by simp [results, Tryz.results219, go_sem]) rfl ⟨rfl, rfl⟩
end Go.Proofs.YtbhfbdcmamodcaaGreatDoor
namespace Go.Proofs.YtbhfbdcmamodcaaGreatDoor
open Go.RowKit LgMath
theorem qbInfo : (Tryz.prog.info? 322).map (fun i => (i.zero, i.size, i.bytes)) = some (some (.agg #[.int .i64 0, .int .u64 0]), 2, 16) := by kernel_rfl
structure qbRow (w : World) (q g c : Nat) (l : List (Nat × Nat)) : Prop where
  box : ∃ k : Nat, k < 18446744073709551616 ∧ w.heap[q]? = some (.cells #[.slice (some ⟨g, 0, none⟩) l.length c, .int .u64 (k : Nat)] 279 (0, 0))
  own : OwnX 322 2 entV w 0 (.slice (some ⟨g, 0, none⟩) l.length c) l
  ne : g ≠ q
section
variable {w w' : World} {q g c : Nat} {l : List (Nat × Nat)}
theorem qbRow.stays (h : qbRow w q g c l) (h1 : w'.heap[q]? = w.heap[q]?) (h2 : w'.heap[g]? = w.heap[g]?) : qbRow w' q g c l := by
  obtain ⟨⟨k, hk, a⟩, b, d⟩ := h
  exact ⟨⟨k, hk, h1.trans a⟩, b.stays (fun j e => by simp [Value.ownBlock] at e; subst e; exact h2), d⟩
theorem qbRow.lt (h : qbRow w q g c l) : q < w.heap.size ∧ g < w.heap.size := by
  obtain ⟨⟨k, hk, a⟩, b, d⟩ := h
  exact ⟨(Array.getElem?_eq_some_iff.1 a).1, (b.lt g rfl).2⟩
theorem qbRow.below (h : qbRow w q g c l) (hb : Below w.heap.size w w') : qbRow w' q g c l := h.stays (hb.block _ h.lt.1) (hb.block _ h.lt.2)
theorem qbRow.cells (h : qbRow w q g c l) {i : Nat} (hi : i < l.length) : w.cell? ⟨g, i * 2, none⟩ = some (.int .i64 ((l.getD i (0, 0)).1 : Nat)) ∧ w.cell? ⟨g, i * 2 + 1, none⟩ = some (.int .u64 ((l.getD i (0, 0)).2 : Nat)) := by
  obtain ⟨sa, sc, e, hc, _⟩ := h.own.sl
  obtain ⟨rfl, _, _⟩ := Value.slice.inj e
  obtain ⟨b, off, e1, _, e3⟩ := hc.elem entW hi (by decide)
  cases e1
  have h0 := e3 0 _ rfl
  have h1 := e3 1 _ rfl
  simp only [Nat.zero_add, Nat.add_zero] at h0 h1
  rw [List.getD_eq_getElem?_getD, List.getElem?_eq_getElem hi]
  exact ⟨h0, h1⟩
theorem qbRow.at0 (h : qbRow w q g c l) : w.cell? ⟨q, 0, none⟩ = some (.slice (some ⟨g, 0, none⟩) l.length c) := by
  obtain ⟨⟨k, hk, a⟩, _⟩ := h
  rw [cell_of_row _ _ _ _ _ _ a]; rfl
theorem qbRow.put (h : qbRow w q g c l) {i : Nat} (hi : i < l.length) (x : Nat × Nat) : qbRow ((w.setCell ⟨g, i * 2, none⟩ (.int .i64 (x.1 : Nat))).setCell ⟨g, i * 2 + 1, none⟩ (.int .u64 (x.2 : Nat))) q g c (l.set i x) := by
  obtain ⟨a, b, d⟩ := h
  have h1 := (OwnX.put entW b hi 0 (by decide) (.int .i64 (x.1 : Nat)) (x.1, l[i].2) rfl).1
  rw [Nat.add_zero] at h1
  have hl1 : (l.set i (x.1, l[i].2)).length = l.length := List.length_set
  have h2 := (OwnX.put (l := l.set i (x.1, l[i].2)) entW (by rw [hl1]; exact h1) (i := i) (by rw [hl1]; exact hi) 1 (by decide) (.int .u64 (x.2 : Nat)) x (by rw [List.getElem_set_self]; rfl)).1
  rw [List.set_set, hl1] at h2
  obtain ⟨k, hk, a⟩ := a
  refine ⟨⟨k, hk, ?_⟩, ?_, d⟩
  · rw [heap_setCell_other _ _ _ _ (by exact fun e => d e.symm), heap_setCell_other _ _ _ _ (by exact fun e => d e.symm), List.length_set]
    exact a
  · rw [List.length_set]; exact h2
theorem qbRow.upd (h : qbRow w q g c l) {F : Foot} {w0 : World} (hu : Upd F w0 w) (hg : F g ∨ w0.heap.size ≤ g) (i : Nat) (u v : Value) : Upd F w0 ((w.setCell ⟨g, i * 2, none⟩ u).setCell ⟨g, i * 2 + 1, none⟩ v) := (hu.set _ _ _ hg).set _ _ _ hg
end
def qbSwp (w : World) (g i j : Nat) (x y : Nat × Nat) : World := ((((w.setCell ⟨g, i * 2, none⟩ (.int .i64 (x.1 : Nat))).setCell ⟨g, i * 2 + 1, none⟩ (.int .u64 (x.2 : Nat))).setCell ⟨g, j * 2, none⟩ (.int .i64 (y.1 : Nat))).setCell ⟨g, j * 2 + 1, none⟩ (.int .u64 (y.2 : Nat)))
theorem qbRow.swap {w : World} {q g c : Nat} {l : List (Nat × Nat)} (h : qbRow w q g c l) {i j : Nat} (hi : i < l.length) (hj : j < l.length) :
    qbRow (qbSwp w g i j (l.getD j (0, 0)) (l.getD i (0, 0))) q g c (swapL l i j) := by
  have h1 := (h.put hi (l.getD j (0, 0))).put (i := j) (by rw [List.length_set]; exact hj) (l.getD i (0, 0))
  exact h1
end Go.Proofs.YtbhfbdcmamodcaaGreatDoor
