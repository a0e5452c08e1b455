/- Walks of layer 9: sameness; copies with marked spare room. -/
import Derived.Test.YtmmabkppadokkaaCmW3
import Derived.Laws.OwnMore
set_option linter.unusedVariables false
set_option linter.unusedSimpArgs false
namespace Go.Proofs.Ytmmabkppadokkaa
open Go.RowKit PackMath

/-- A commit's parents, as they lie in the world. -/
structure Com (w : World) (a : Option Addr) (zs : List Int) (cap : Nat) : Prop where
  ints : IntsAt w .i64 a zs
  le : zs.length ≤ cap
  small : zs.length ≤ 17592186044416
  max : cap ≤ maxLen
  nil : a = none → cap = 0
theorem Com.below {w w' : World} {a : Option Addr} {zs : List Int} {cap : Nat} (h : Com w a zs cap) (hb : Below w.heap.size w w') : Com w' a zs cap := ⟨h.ints.below hb (Nat.le_refl _), h.le, h.small, h.max, h.nil⟩
theorem Com.alloc {w : World} {a : Option Addr} {zs : List Int} {cap : Nat} (h : Com w a zs cap) (o : Obj) : Com (w.alloc o) a zs cap := h.below (bl_alloc (Below.refl _ _) o)

def eqB (zs ys : List Int) : Bool := decide (zs = ys)
theorem eqB_yes {zs ys : List Int} (h : zs = ys) : eqB zs ys = true := decide_eq_true h
theorem eqB_no {zs ys : List Int} (h : ¬ zs = ys) : eqB zs ys = false := decide_eq_false h
theorem take_ne {zs ys : List Int} {k : Nat} (hz : k < zs.length) (hy : k < ys.length) (h : ¬ zs[k] = ys[k]) : ¬ zs = ys := fun e => by subst e; exact h rfl
theorem take_eq {zs ys : List Int} {k : Nat} (hz : k < zs.length) (hy : k < ys.length) (h : zs.take k = ys.take k) (he : zs[k] = ys[k]) : zs.take (k + 1) = ys.take (k + 1) := by
  rw [take_at zs k hz, take_at ys k hy, h, he]
theorem take_all {zs ys : List Int} {k : Nat} (hz : zs.length = ys.length) (hk : zs.length ≤ k) (h : zs.take k = ys.take k) : zs = ys := by
  rwa [List.take_of_length_le hk, List.take_of_length_le (by omega)] at h

section
variable (w : World)
set_option maxHeartbeats 800000 in
theorem sEqual (zs ys : List Int) (a b : Option Addr) (c d : Nat) (h : Com w a zs c) (k : Com w b ys d) :
    Calls Try.prog 26 #[.slice a zs.length c, .slice b ys.length d] w fun e w' => e = .returned (.bool (eqB zs ys)) ∧ ∃ n, w' = w.drewN n := by
  have hl1 := h.le; have hl2 := h.small; have hl3 := k.le; have hl4 := k.small
  have HA := Lib.hid h.ints; have HB := Lib.hid k.ints
  clear h k
  by_cases hlen : zs.length = ys.length
  · have hd : ((zs.length : Int) != (ys.length : Int)) = false := by simp; omega
    have HL := Lib.hid hlen
    go_enter Try.func26, Try.ntmps26
    clear hlen
    go_wp2
    go_loopw [13] (fun i wr => ∃ k n : Nat, k ≤ zs.length ∧ i = .int .i64 k ∧ zs.take k = ys.take k ∧ wr = w.drewN n) (fun i _ => zs.length - (intOf i).toNat)
    case atStart => exact ⟨0, 0, Nat.zero_le _, rfl, rfl, rfl⟩
    case round =>
      obtain ⟨k, n, hk, rfl, ht, rfl⟩ := hrel
      have HT := Lib.hid ht
      clear ht
      by_cases hlt : k < zs.length
      · have hlt2 : k < ys.length := by have := HL.out; omega
        obtain ⟨_, b1, o1, rfl, q1⟩ := HA.out k hlt
        obtain ⟨_, b2, o2, rfl, q2⟩ := HB.out k hlt2
        have H1 := Lib.hid (take_ne hlt hlt2)
        have H2 := Lib.hid (take_eq hlt hlt2 HT.out)
        generalize zs[k] = x at q1 H1 H2
        generalize ys[k] = y at q2 H1 H2
        by_cases he : x = y
        · subst he
          have HE := Lib.hid (H2.out rfl)
          clear H1 H2
          go_wp2
          go_quiet (fail)
          go_wp2
          go_roundw
          case rel => exact ⟨k + 1, _, by omega, by go_num, HE.out, by first | rfl | (rw [World.drewN_drewN])⟩
          case measure => simp [intOf]; omega
        · have hd2 : (x != y) = true := by simpa using he
          have HE := Lib.hid (eqB_no (H1.out he))
          clear H1 H2 he
          go_wp2
          go_quiet (fail)
          go_wp2
          go_ret
          exact ⟨ret_bool HE.out.symm, n + nq, by first | rfl | (rw [World.drewN_drewN])⟩
      · have HE := Lib.hid (eqB_yes (take_all HL.out (by omega) HT.out))
        go_wp2
        go_ret
        exact ⟨ret_bool HE.out.symm, _, rfl⟩
  · have hd : ((zs.length : Int) != (ys.length : Int)) = true := by simp; omega
    have HE := Lib.hid (eqB_no (zs := zs) (ys := ys) (fun e => hlen (by rw [e])))
    clear hlen
    go_enter Try.func26, Try.ntmps26
    go_wp2
    go_ret
    exact ⟨ret_bool HE.out.symm, 0, rfl⟩
set_option maxHeartbeats 800000 in
theorem sSame (zs ys : List Int) (a b : Option Addr) (c d : Nat) (h : Com w a zs c) (k : Com w b ys d) :
    Calls Try.prog 27 #[.slice a zs.length c, .slice b ys.length d] w fun e w' => e = .returned (.bool (eqB zs ys)) ∧ ∃ n, w' = w.drewN n := by
  have hl1 := h.le; have hl2 := h.small; have hl3 := k.le; have hl4 := k.small
  have HA := Lib.hid h.ints; have HB := Lib.hid k.ints
  clear h k
  by_cases hlen : zs.length = ys.length
  · have hd : ((zs.length : Int) != (ys.length : Int)) = false := by simp; omega
    have HL := Lib.hid hlen
    go_enter Try.func27, Try.ntmps27
    clear hlen
    go_wp2
    go_loopw [5] (fun i wr => ∃ k n : Nat, k ≤ zs.length ∧ i = .int .i64 k ∧ zs.take k = ys.take k ∧ wr = w.drewN n) (fun i _ => zs.length - (intOf i).toNat)
    case atStart => exact ⟨0, 0, Nat.zero_le _, rfl, rfl, rfl⟩
    case round =>
      obtain ⟨k, n, hk, rfl, ht, rfl⟩ := hrel
      have HT := Lib.hid ht
      clear ht
      by_cases hlt : k < zs.length
      · have hlt2 : k < ys.length := by have := HL.out; omega
        obtain ⟨_, b1, o1, rfl, q1⟩ := HA.out k hlt
        obtain ⟨_, b2, o2, rfl, q2⟩ := HB.out k hlt2
        have H1 := Lib.hid (take_ne hlt hlt2)
        have H2 := Lib.hid (take_eq hlt hlt2 HT.out)
        generalize zs[k] = x at q1 H1 H2
        generalize ys[k] = y at q2 H1 H2
        by_cases he : x = y
        · subst he
          have HE := Lib.hid (H2.out rfl)
          clear H1 H2
          go_wp2
          go_quiet (fail)
          go_wp2
          go_roundw
          case rel => exact ⟨k + 1, _, by omega, by go_num, HE.out, by first | rfl | (rw [World.drewN_drewN])⟩
          case measure => simp [intOf]; omega
        · have hd2 : (x != y) = true := by simpa using he
          have HE := Lib.hid (eqB_no (H1.out he))
          clear H1 H2 he
          go_wp2
          go_quiet (fail)
          go_wp2
          go_ret
          exact ⟨ret_bool HE.out.symm, n + nq, by first | rfl | (rw [World.drewN_drewN])⟩
      · have HE := Lib.hid (eqB_yes (take_all HL.out (by omega) HT.out))
        go_wp2
        go_ret
        exact ⟨ret_bool HE.out.symm, _, rfl⟩
  · have hd : ((zs.length : Int) != (ys.length : Int)) = true := by simp; omega
    have HE := Lib.hid (eqB_no (zs := zs) (ys := ys) (fun e => hlen (by rw [e])))
    clear hlen
    go_enter Try.func27, Try.ntmps27
    go_wp2
    go_ret
    exact ⟨ret_bool HE.out.symm, 0, rfl⟩

def sameB (t : Int) (zs : List Int) (u : Int) (ys : List Int) : Bool := decide (t = u ∧ zs = ys)
theorem sameB_tree {t u : Int} {zs ys : List Int} (h : ¬ t = u) : sameB t zs u ys = false := decide_eq_false fun k => h k.1
theorem sameB_list {t : Int} {zs ys : List Int} : sameB t zs t ys = eqB zs ys := by unfold sameB eqB; simp
theorem sameB_self {t : Int} {zs : List Int} : sameB t zs t zs = true := decide_eq_true ⟨rfl, rfl⟩

theorem cSame (t u : Int) (zs ys : List Int) (a b : Option Addr) (c d : Nat) (h : Com w a zs c) (k : Com w b ys d) :
    Calls Try.prog 14 #[.agg #[.slice a zs.length c, .int .i64 t], .agg #[.slice b ys.length d, .int .i64 u]] w fun e w' => e = .returned (.bool (sameB t zs u ys)) ∧ Below w.heap.size w w' := by
  have HA := Lib.hid h; have HB := Lib.hid k
  clear h k
  by_cases he : t = u
  · subst he
    have HE := Lib.hid (sameB_list (t := t) (zs := zs) (ys := ys))
    go_enter Try.func14, Try.ntmps14
    go_wp2_with (go_at_call 26; refine (sEqual _ zs ys a b c d ((HA.out.alloc _).alloc _) ((HB.out.alloc _).alloc _)).mono ?_; rintro e w1 ⟨rfl, n, rfl⟩)
    go_ret
    exact ⟨ret_bool HE.out.symm, bl_drewN (bl_alloc (bl_alloc (Below.refl _ _) _) _) _⟩
  · have hd : (t == u) = false := by simpa using he
    have HE := Lib.hid (sameB_tree (zs := zs) (ys := ys) he)
    clear he
    go_enter Try.func14, Try.ntmps14
    go_wp2
    go_ret
    exact ⟨ret_bool HE.out.symm, bl_alloc (bl_alloc (Below.refl _ _) _) _⟩
theorem dSame (t u : Int) (zs ys : List Int) (a b : Option Addr) (c d : Nat) (h : Com w a zs c) (k : Com w b ys d) :
    Calls Try.prog 15 #[.agg #[.slice a zs.length c, .int .i64 t], .agg #[.slice b ys.length d, .int .i64 u]] w fun e w' => e = .returned (.bool (sameB t zs u ys)) ∧ Below w.heap.size w w' := by
  have HA := Lib.hid h; have HB := Lib.hid k
  clear h k
  by_cases he : t = u
  · subst he
    have HE := Lib.hid (sameB_list (t := t) (zs := zs) (ys := ys))
    go_enter Try.func15, Try.ntmps15
    go_wp2_with (go_at_call 27; refine (sSame _ zs ys a b c d ((HA.out.alloc _).alloc _) ((HB.out.alloc _).alloc _)).mono ?_; rintro e w1 ⟨rfl, n, rfl⟩)
    go_ret
    exact ⟨ret_bool HE.out.symm, bl_drewN (bl_alloc (bl_alloc (Below.refl _ _) _) _) _⟩
  · have hd : (t == u) = false := by simpa using he
    have HE := Lib.hid (sameB_tree (zs := zs) (ys := ys) he)
    clear he
    go_enter Try.func15, Try.ntmps15
    go_wp2
    go_ret
    exact ⟨ret_bool HE.out.symm, bl_alloc (bl_alloc (Below.refl _ _) _) _⟩
end
end Go.Proofs.Ytmmabkppadokkaa
