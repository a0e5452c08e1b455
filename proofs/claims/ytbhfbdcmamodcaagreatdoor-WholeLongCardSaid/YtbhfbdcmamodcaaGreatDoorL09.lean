/- Walks of layer 13: the places of a path; Walks of layer 13: the places of a path, by any settings; Plain law of layer 13: sets of paths, as a map reads; the filter of some paths. -/
import Derived.Test.YtbhfbdcmamodcaaGreatDoorL06
import Derived.Test.YtbhfbdcmamodcaaGreatDoorL08
import Derived.Deep.RegionHeld3
import Derived.Maps.Own
import Derived.Maps.OwnSet
import Derived.Maps.RangeWalk
import Derived.StringKeys
set_option linter.unusedVariables false
set_option linter.unusedSimpArgs false
namespace Go.Proofs.YtbhfbdcmamodcaaGreatDoor
open Go.RowKit BlMath
theorem infoInt : (Tryz.prog.info? 3).map (fun i => (i.zero, i.size, i.bytes)) = some (some (.int .i64 0), 1, 8) := by kernel_rfl
theorem below_ownE {B e n : Nat} {w w1 : World} {v : Value} {xs : List Value} (h : w.ownsRow B e 1 v n xs) {o : Obj} (hg : (w.alloc o).grownBy w1 v.ownBlock) (hB : B ≤ w.heap.size) : Below B w w1 :=
  ⟨hg.os, hg.tape, hg.output, by have := hg.size; simp at this; omega, fun k hk => by
    rw [hg.block k (by simp; omega) (fun e => by have := (h.lt k e.symm).1; omega), Below.heap_alloc w o k (by omega)]⟩
def natsV (l : List Nat) : List Value := l.map fun k => Value.int .i64 (k : Nat)
theorem natsV_append (l m : List Nat) : natsV (l ++ m) = natsV l ++ natsV m := by simp [natsV]
def PlSaid (l : List Nat) (w : World) (r : Ending) (w' : World) : Prop := ∃ v, r = .returned v ∧ w'.ownsRow w.heap.size 3 1 v l.length (natsV l) ∧ Below w.heap.size w w'
theorem step_val (x b : Nat) : IntKind.u32.wrap ((x : Int) + (b : Int)) = (((x + b) % 4294967296 : Nat) : Int) ∧ ((x : Int) + (b : Int)) % 4294967296 = (((x + b) % 4294967296 : Nat) : Int) := by
  rw [IntKind.wrap_u32]; omega
theorem rem_val (x n : Nat) : (x : Int).tmod (n : Int) = ((x % n : Nat) : Int) ∧ (x : Int) % (n : Int) = ((x % n : Nat) : Int) := by
  rw [Int.tmod_eq_emod_of_nonneg (by omega)]
  exact ⟨(Int.natCast_emod x n).symm, (Int.natCast_emod x n).symm⟩
theorem or1_val (x : Nat) (h : x < 4294967296) : bits .or .u32 (x : Int) 1 = ((x ||| 1 : Nat) : Int) := u32_or_nat x 1 h (by decide)
set_option maxHeartbeats 1000000 in
set_option maxRecDepth 100000 in
theorem blPlaces_ok (H N S : Nat) (P M : Int) (hc : chkR H P M = 0) (h1 : 1 ≤ N) (h2 : N ≤ 4294967295) (hS : S < 4294967296) (p : ByteArray) (hp : p.size ≤ maxLen) (w : World) :
    Calls Tryz.prog 211 #[.agg #[.int .i64 H, .int .i64 P, .int .i64 M, .int .u32 S], .string p, .int .i64 N] w (PlSaid (pl H S N p) w) := by
  obtain ⟨i0, hi, hz0, hz1, hz2⟩ := info_parts infoInt
  have hH := (chk_zero hc).2.1
  have HC := Lib.hid (fun W => blCheck H P M S W)
  rw [hc] at HC
  have hx1 : ¬ ((N : Int) < 1) := by omega
  have hx2 : ¬ ((4294967295 : Int) < N) := by omega
  have d1 : decide ((N : Int) < 1) = false := by simpa using hx1
  have d2 : decide ((4294967295 : Int) < (N : Int)) = false := by simpa using hx2
  have hN : IntKind.u32.wrap (N : Int) = (N : Int) := IntWalk.u32_in _ (by omega)
  have hS1 : IntKind.u32.wrap ((S : Int) + 1) = (((S + 1) % 4294967296 : Nat) : Int) := (step_val S 1).1
  have hS1' : ((S : Int) + 1) % 4294967296 = (((S + 1) % 4294967296 : Nat) : Int) := (step_val S 1).2
  have hsl : (S + 1) % 4294967296 < 4294967296 := Nat.mod_lt _ (by decide)
  have HA := Lib.hid (fun W => blHash S hS p hp W)
  have HB := Lib.hid (fun W => blHash ((S + 1) % 4294967296) hsl p hp W)
  have hal := hashR_lt S p.data.toList
  have hbl := hashR_lt ((S + 1) % 4294967296) p.data.toList
  have HPL := Lib.hid (show pl H S N p = placesL H (hashR S p.data.toList) (hashR ((S + 1) % 4294967296) p.data.toList ||| 1) N from rfl)
  have hor := or1_val _ hbl
  have hol : hashR ((S + 1) % 4294967296) p.data.toList ||| 1 < 4294967296 := Nat.or_lt_two_pow (n := 32) hbl (by decide)
  generalize hashR S p.data.toList = a at *
  generalize hashR ((S + 1) % 4294967296) p.data.toList = b0 at *
  generalize b0 ||| 1 = b at *
  generalize (S + 1) % 4294967296 = S1 at *
  clear hc
  go_enter Tryz.func211, Tryz.ntmps211
  have HBX := Lib.hid (bl_alloc (Below.refl _ w) (.cells #[.int .i64 H, .int .i64 P, .int .i64 M, .int .u32 S] 49))
  have HC0 := Lib.hid (show ∀ i x, #[Value.int .i64 H, .int .i64 P, .int .i64 M, .int .u32 S][i]? = some x → (w.alloc (.cells #[.int .i64 H, .int .i64 P, .int .i64 M, .int .u32 S] 49)).cell? ⟨w.heap.size, i, none⟩ = some x from fun i x hx => by rw [World.cell?_alloc_mark]; exact hx)
  go_wp2_with (go_at_call 86; (with_reducible refine (HC.out _).mono ?_); rintro r w1 ⟨rfl, hb⟩; have HB1 := Lib.hid (HBX.out.trans (hb.mono HBX.out.size)); have c0 := bl_cell hb (HC0.out 0 _ rfl); have c3 := Lib.hid (bl_cell hb (HC0.out 3 _ rfl)); clear hb)
  go_region_held3 (fun w' => w'.cell? ⟨w.heap.size, 3, none⟩ = some (.int .u32 S))
    (first | exact y4.out | exact y3.out | exact c3.out)
    (first
      | (go_at_call 241; (with_reducible refine (HA.out _).mono ?_); rintro r w3 ⟨rfl, hb⟩; have HW3 := Lib.hid (HW2.out.trans (hb.mono HW2.out.size)); have y4 := Lib.hid (bl_cell HW3.out c3.out); clear hb)
      | (go_at_call 241; (with_reducible refine (HB.out _).mono ?_); rintro r w3 ⟨rfl, hb⟩; have HW3 := Lib.hid (HW2.out.trans (hb.mono HW2.out.size)); have y4 := Lib.hid (bl_cell HW3.out c3.out); clear hb)
      | (go_at_call 241; (with_reducible refine (HA.out _).mono ?_); rintro r w2 ⟨rfl, hb⟩; have hb1 := (Below.drew (Below.refl _ w1)).trans hb; have HW2 := Lib.hid hb1; have y3 := Lib.hid (bl_cell hb1 c3.out); clear hb hb1)
      | (go_at_call 241; (with_reducible refine (HB.out _).mono ?_); rintro r w2 ⟨rfl, hb⟩; have hb1 := (Below.drew (Below.refl _ w1)).trans hb; have HW2 := Lib.hid hb1; have y3 := Lib.hid (bl_cell hb1 c3.out); clear hb hb1))
  all_goals
    have z0 := bl_cell HW3.out c0
    have HW := Lib.hid (HB1.out.trans (HW3.out.mono HB1.out.size))
    clear c0
    go_wp2
    go_loopw [7, 9, 33] (fun at_ lv i wr => ∃ (k : Nat) (v : Value), k ≤ H ∧ at_ = .int .u32 (((a + k * b) % 4294967296 : Nat) : Int) ∧ lv = v ∧ i = .int .i64 k ∧ wr.ownsRow w.heap.size 3 1 v k (natsV ((placesL H a b N).take k)) ∧ Below w.heap.size w wr) (fun _ _ i _ => H - (intOf i).toNat)
    case atStart => exact ⟨0, _, Nat.zero_le _, by rw [Nat.zero_mul, Nat.add_zero, Nat.mod_eq_of_lt hal], rfl, rfl, World.ownsRow_nil _ _ _ _, HW.out⟩
    case round =>
      obtain ⟨k, v, hk, rfl, rfl, rfl, hown, hbb⟩ := hrel
      have HO := Lib.hid hown; have HBB := Lib.hid hbb
      have hsz := hbb.size
      clear hown hbb
      by_cases hlt : k < H
      · have hd : decide ((k : Int) < (H : Int)) = true := by simp; omega
        have HT := Lib.hid (placesL_take H a b N k hlt)
        have HST := Lib.hid (step_place a b k)
        have hxl : (a + k * b) % 4294967296 < 4294967296 := Nat.mod_lt _ (by decide)
        have HPA := Lib.hid (show placeAt a b N k = (a + k * b) % 4294967296 % N from rfl)
        generalize (a + k * b) % 4294967296 = x at *
        obtain ⟨r1, r2⟩ := rem_val x N
        obtain ⟨s1, s2⟩ := step_val x b
        rw [HST.out] at s1 s2
        have hrl : x % N < 4294967296 := by have := Nat.mod_lt x (show 0 < N from h1); omega
        generalize x % N = y at *
        have hyw : IntKind.i64.wrap (y : Int) = (y : Int) := IntWalk.i64_in _ (by omega)
        generalize hX2 : (a + (k + 1) * b) % 4294967296 = x2 at *
        have HX2 := Lib.hid hX2
        clear hX2
        have HTE : Hid ((placesL H a b N).take (k + 1) = (placesL H a b N).take k ++ [y]) := Lib.hid (by rw [HT.out, HPA.out])
        go_wp2_with (refine wpList_append_lies _ rfl (.tmp 35) (.tmp 41) 42 rfl w.heap.size 3 i0 (.int .i64 0) 1 8 Tryz.underlying42 hi hz0 hz1 hz2 rfl (by decide) _ k _ rfl (HO.out.alloc _) ⟨wr.heap.size, 0, none⟩ 1 1 [.int .i64 (y : Int)] rfl rfl (cells_one _ _ _) (by intro u hu; rw [List.mem_singleton.1 hu]; rfl) (by decide) (by unfold maxLen; omega) (by omega) (by simp; omega) (wr.heap.size + 1) (by simp) ?_; intro g cap w4 hown hg hat hlt2; have HB4 := Lib.hid (HBB.out.trans (below_ownE HO.out hg hsz)); have HO4 := Lib.hid hown; clear hown hg hat hlt2)
        go_roundw
        case rel => exact ⟨k + 1, _, by omega, by rw [HX2.out], rfl, by go_num, by rw [HTE.out, natsV_append]; exact HO4.out, HB4.out⟩
        case measure => simp [intOf]; omega
      · have hd : decide ((k : Int) < (H : Int)) = false := by simp; omega
        obtain rfl : k = H := by omega
        go_wp2
        go_ret
        have hle : (placesL k a b N).take k = placesL k a b N := List.take_of_length_le (by rw [placesL_length]; exact Nat.le_refl _)
        have ho := HO.out
        rw [hle] at ho
        exact ⟨_, rfl, by rw [HPL.out, placesL_length]; exact ho, HBB.out⟩
end Go.Proofs.YtbhfbdcmamodcaaGreatDoor
namespace Go.Proofs.YtbhfbdcmamodcaaGreatDoor
open Go.RowKit BlMath
theorem chk_one {H P M : Int} (h : chkR H P M ≠ 0) : chkR H P M = 1 := by unfold chkR at h ⊢; split <;> simp_all
theorem blPlaces_at (H N S : Nat) (P M n : Int) (hn : n = (N : Int)) (hc : chkR H P M = 0) (h1 : 1 ≤ N) (h2 : N ≤ 4294967295) (hS : S < 4294967296) (p : ByteArray) (hp : p.size ≤ maxLen) (w : World) :
    Calls Tryz.prog 211 #[.agg #[.int .i64 H, .int .i64 P, .int .i64 M, .int .u32 S], .string p, .int .i64 n] w (PlSaid (pl H S N p) w) := by
  subst hn
  exact blPlaces_ok H N S P M hc h1 h2 hS p hp w
end Go.Proofs.YtbhfbdcmamodcaaGreatDoor
namespace Go.Proofs.YtbhfbdcmamodcaaGreatDoor
open Go.RowKit BlMath Go.Maps
def keyS (s : ByteArray) : Lit := .string s.data.toList
theorem keyS_key (s : ByteArray) : WideAt.IsKeyLit (keyS s) := True.intro
theorem keyS_inj {s t : ByteArray} (h : keyS s = keyS t) : s = t := by
  unfold keyS at h
  have h1 : s.data.toList = t.data.toList := by simpa using h
  have h2 := Array.toList_inj.1 h1
  cases s; cases t; cases h2; rfl
theorem keys_key (l : List ByteArray) : ∀ x ∈ l.map keyS, WideAt.IsKeyLit x := by
  intro x hx
  obtain ⟨s, _, rfl⟩ := List.mem_map.1 hx
  exact keyS_key s
theorem ba_list {s t : ByteArray} (h : s.data.toList = t.data.toList) : s = t := by
  have h2 := Array.toList_inj.1 h
  cases s; cases t; cases h2; rfl
theorem any_mem {acc : List ByteArray} {x : ByteArray} : acc.any (fun y => y.data.toList == x.data.toList) = true ↔ x ∈ acc := by
  rw [List.any_eq_true]
  constructor
  · rintro ⟨y, hy, h⟩; exact ba_list (by simpa using h) ▸ hy
  · intro h; exact ⟨x, h, by simp⟩
def addP (acc : List ByteArray) (x : ByteArray) : List ByteArray := if acc.any (fun y => y.data.toList == x.data.toList) = true then acc else acc ++ [x]
theorem addP_in {acc : List ByteArray} {x : ByteArray} (h : x ∈ acc) : addP acc x = acc := by unfold addP; rw [if_pos (any_mem.2 h)]
theorem addP_out {acc : List ByteArray} {x : ByteArray} (h : ¬ x ∈ acc) : addP acc x = acc ++ [x] := by unfold addP; rw [if_neg (fun e => h (any_mem.1 e))]
def uniq (l : List ByteArray) : List ByteArray := l.foldl addP []
theorem addKey_map (acc : List ByteArray) (x : ByteArray) : addKey (acc.map keyS) (keyS x) = (addP acc x).map keyS := by
  unfold addKey
  by_cases h : x ∈ acc
  · rw [addP_in h, if_pos]
    exact List.any_eq_true.2 ⟨keyS x, List.mem_map.2 ⟨x, h, rfl⟩, WideAt.sameKey_self (keyS_key x)⟩
  · rw [addP_out h, if_neg]
    · simp
    · intro h2
      obtain ⟨y, hy, hs⟩ := List.any_eq_true.1 h2
      obtain ⟨z, hz, rfl⟩ := List.mem_map.1 hy
      exact h (keyS_inj (WideAt.sameKey_eq hs) ▸ hz)
theorem fold_map : ∀ (l acc : List ByteArray), (l.map keyS).foldl addKey (acc.map keyS) = (l.foldl addP acc).map keyS
  | [], acc => rfl
  | x :: r, acc => by rw [List.map_cons, List.foldl_cons, List.foldl_cons, addKey_map, fold_map r]
theorem size_uniq {H : Type} (u : DataW H) (l : List ByteArray) : Maps.size (setOf u (l.map keyS)) = (uniq l).length := by
  rw [size_setOf u _ (keys_key l), show ([] : List Lit) = ([] : List ByteArray).map keyS from rfl, fold_map, List.length_map]
  rfl
theorem has_set {H : Type} (u : DataW H) (l : List ByteArray) (kl : Lit) : Maps.has (setOf u (l.map keyS)) kl = true ↔ ∃ p ∈ l, kl = keyS p := by
  rw [has_setOf u kl _ (keys_key l), List.any_eq_true]
  constructor
  · rintro ⟨y, hy, hs⟩
    obtain ⟨p, hp, rfl⟩ := List.mem_map.1 hy
    exact ⟨p, hp, (WideAt.sameKey_eq hs).symm⟩
  · rintro ⟨p, hp, rfl⟩
    exact ⟨keyS p, List.mem_map.2 ⟨p, hp, rfl⟩, WideAt.sameKey_self (keyS_key p)⟩
theorem setF_iff {H S n : Nat} {l : List ByteArray} {i : Nat} : setF H S n l i = true ↔ ∃ p ∈ l, i ∈ pl H S n p := by
  unfold setF
  rw [List.any_eq_true]
  constructor
  · rintro ⟨p, hp, h⟩; exact ⟨p, hp, by simpa using h⟩
  · rintro ⟨p, hp, h⟩; exact ⟨p, hp, by simpa using h⟩
def MarkL (ss : List ByteArray) (left : Lit → Bool) : Prop := ∀ kl, left kl = true → ∃ p ∈ ss, kl = keyS p
def MarkF (ss : List ByteArray) (left : Lit → Bool) (f : Nat → Bool) (PL : ByteArray → List Nat) : Prop := ∀ i, f i = true ↔ ∃ p ∈ ss, left (keyS p) = false ∧ i ∈ PL p
theorem mark_start {H : Type} (u : DataW H) (ss : List ByteArray) (PL : ByteArray → List Nat) : MarkL ss (Maps.has (setOf u (ss.map keyS))) ∧ MarkF ss (Maps.has (setOf u (ss.map keyS))) (fun _ => false) PL := by
  refine ⟨fun kl h => (has_set u ss kl).1 h, fun i => ⟨fun h => absurd h (by simp), ?_⟩⟩
  rintro ⟨p, hp, hf, _⟩
  rw [(has_set u ss (keyS p)).2 ⟨p, hp, rfl⟩] at hf
  cases hf
theorem mark_step {ss : List ByteArray} {left : Lit → Bool} {f g : Nat → Bool} {PL : ByteArray → List Nat} {x : ByteArray} (hL : MarkL ss left) (hF : MarkF ss left f PL) (hx : left (keyS x) = true) (hg : ∀ i, g i = (f i || (PL x).contains i)) :
    MarkL ss (fun z => left z && !z.sameKey (keyS x)) ∧ MarkF ss (fun z => left z && !z.sameKey (keyS x)) g PL := by
  refine ⟨fun kl h => hL kl (by simp at h; exact h.1), fun i => ?_⟩
  rw [hg i, Bool.or_eq_true]
  constructor
  · rintro (h | h)
    · obtain ⟨p, hp, hl, hi⟩ := (hF i).1 h
      exact ⟨p, hp, by simp [hl], hi⟩
    · obtain ⟨p, hp, e⟩ := hL _ hx
      have := keyS_inj e
      subst this
      exact ⟨x, hp, by simp [WideAt.sameKey_self (keyS_key x)], by simpa using h⟩
  · rintro ⟨p, hp, hl, hi⟩
    by_cases h1 : left (keyS p) = false
    · exact .inl ((hF i).2 ⟨p, hp, h1, hi⟩)
    · have h2 : left (keyS p) = true := by simpa using h1
      simp [h2] at hl
      have := keyS_inj (WideAt.sameKey_eq hl)
      subst this
      exact .inr (by simpa using hi)
theorem mark_end {ss : List ByteArray} {left : Lit → Bool} {f : Nat → Bool} {H S n : Nat} (hF : MarkF ss left f (pl H S n)) (h0 : ∀ kl, left kl = false) (i : Nat) : f i = setF H S n ss i := by
  apply Bool.eq_iff_iff.2
  rw [setF_iff, hF i]
  constructor
  · rintro ⟨p, hp, _, hi⟩; exact ⟨p, hp, hi⟩
  · rintro ⟨p, hp, hi⟩; exact ⟨p, hp, h0 _, hi⟩
def roomB (u P : Nat) : Nat := max 1 ((u * P + 7) / 8)
def fbits (H P S : Nat) (l : List ByteArray) : ByteArray := ⟨(bytesB (setF H S (8 * roomB (uniq l).length P) l) (roomB (uniq l).length P)).toArray⟩
def makeR (H P M : Int) (S : Nat) (l : List ByteArray) : Nat × (Nat × ByteArray) :=
  if chkR H P M ≠ 0 then (1, (0, ⟨#[]⟩)) else if M < (uniq l).length then (0, (2, ⟨#[]⟩)) else (0, (1, fbits H.toNat P.toNat S l))
theorem mk_bad {H P M : Int} {S : Nat} {l : List ByteArray} (h : chkR H P M ≠ 0) : makeR H P M S l = (1, (0, ⟨#[]⟩)) := by unfold makeR; rw [if_pos h]
theorem mk_large {H P M : Int} {S : Nat} {l : List ByteArray} (h : chkR H P M = 0) (h2 : M < (uniq l).length) : makeR H P M S l = (0, (2, ⟨#[]⟩)) := by unfold makeR; rw [if_neg (by simpa using h), if_pos h2]
theorem mk_small {H P M : Int} {S : Nat} {l : List ByteArray} (h : chkR H P M = 0) (h2 : ¬ M < (uniq l).length) : makeR H P M S l = (0, (1, fbits H.toNat P.toNat S l)) := by unfold makeR; rw [if_neg (by simpa using h), if_neg h2]
def MkSaid (R : Nat × (Nat × ByteArray)) (w : World) (r : Ending) (w' : World) : Prop :=
  r = .returned (.tuple #[.agg #[.int .i64 (R.2.1 : Nat), .string R.2.2], .int .i64 (R.1 : Nat)]) ∧ Below w.heap.size w w'
end Go.Proofs.YtbhfbdcmamodcaaGreatDoor
