/- Walks of the laws CommitEncodes, CommitSame. -/
import Derived.Test.YtmmabkppadokkaaCmW5
set_option linter.unusedVariables false
set_option linter.unusedSimpArgs false
namespace Go.Proofs.Ytmmabkppadokkaa
open Go.RowKit PackMath

def encS (t : Int) (zs : List Int) : ByteArray := if checkR t zs = 0 then ⟨(encC t zs).toArray⟩ else ⟨#[]⟩
section
variable (w : World)
theorem cEncode (t : Int) (zs : List Int) (a : Option Addr) (cap : Nat) (h : Com w a zs cap) :
    Calls Try.prog 9 #[.agg #[.slice a zs.length cap, .int .i64 t]] w fun e w' => e = .returned (.tuple #[.string (encS t zs), .int .i64 (checkR t zs)]) ∧ Below w.heap.size w w' := by
  by_cases hc : checkR t zs = 0
  · have := cEncode_ok w t zs a cap h.le h.max h.ints hc
    unfold encS
    rw [if_pos hc, hc]
    exact this
  · have := cEncode_bad w t zs a cap h.le h.max h.ints hc
    unfold encS
    rw [if_neg hc]
    exact this
theorem dEncode (t : Int) (zs : List Int) (a : Option Addr) (cap : Nat) (h : Com w a zs cap) :
    Calls Try.prog 10 #[.agg #[.slice a zs.length cap, .int .i64 t]] w fun e w' => e = .returned (.tuple #[.string (encS t zs), .int .i64 (checkR t zs)]) ∧ Below w.heap.size w w' := by
  by_cases hc : checkR t zs = 0
  · have := dEncode_ok w t zs a cap h.le h.max h.ints hc
    unfold encS
    rw [if_pos hc, hc]
    exact this
  · have := dEncode_bad w t zs a cap h.le h.max h.ints hc
    unfold encS
    rw [if_neg hc]
    exact this

/-- A commit and its copy, each in a box, at a world. -/
structure Both (w : World) (p q : Nat) (a : Option Addr) (g : Nat) (t : Int) (zs : List Int) (cap : Nat) : Prop where
  c0 : w.cell? ⟨p, 0, none⟩ = some (.slice a zs.length cap)
  c1 : w.cell? ⟨p, 1, none⟩ = some (.int .i64 t)
  d0 : w.cell? ⟨q, 0, none⟩ = some (.slice (some ⟨g, 0, none⟩) zs.length (zs.length + 2))
  d1 : w.cell? ⟨q, 1, none⟩ = some (.int .i64 t)
  com : Com w a zs cap
  row : w.heap[g]? = some (.cells (intVals (zs ++ [-77, -78])).toArray 3 (0, 0))
  small : zs.length + 2 ≤ 17592186044416
theorem Both.below {w w' : World} {p q : Nat} {a : Option Addr} {g : Nat} {t : Int} {zs : List Int} {cap : Nat} (h : Both w p q a g t zs cap) (hb : Below w.heap.size w w') : Both w' p q a g t zs cap :=
  ⟨bl_cell hb h.c0, bl_cell hb h.c1, bl_cell hb h.d0, bl_cell hb h.d1, h.com.below hb, by rw [hb.block _ (Array.getElem?_eq_some_iff.1 h.row).1]; exact h.row, h.small⟩
theorem Both.drew {w : World} {p q : Nat} {a : Option Addr} {g : Nat} {t : Int} {zs : List Int} {cap : Nat} (h : Both w p q a g t zs cap) : Both w.drew p q a g t zs cap :=
  h.below ((Below.refl _ _).drew)
theorem Both.copy {w : World} {p q : Nat} {a : Option Addr} {g : Nat} {t : Int} {zs : List Int} {cap : Nat} (h : Both w p q a g t zs cap) : Com w (some ⟨g, 0, none⟩) zs (zs.length + 2) :=
  com_of_row (ms := [-77, -78]) h.row h.com.wf h.small
theorem both_mk {w1 w2 : World} {p : Nat} {a : Option Addr} {g : Nat} {t : Int} {zs : List Int} {cap : Nat} (c0 : w1.cell? ⟨p, 0, none⟩ = some (.slice a zs.length cap)) (c1 : w1.cell? ⟨p, 1, none⟩ = some (.int .i64 t)) (hc : Com w1 a zs cap) (hs : cap + 2 ≤ 17592186044416) (hb : Below w1.heap.size w1 w2)
    (hrow : w2.heap[g]? = some (.cells (intVals (zs ++ [-77, -78])).toArray 3 (0, 0))) :
    Both (w2.alloc (.cells #[.slice (some ⟨g, 0, none⟩) zs.length (zs.length + 2), .int .i64 t] 24)) p w2.heap.size a g t zs cap := by
  have hb2 := bl_alloc hb (.cells #[.slice (some ⟨g, 0, none⟩) zs.length (zs.length + 2), .int .i64 t] 24)
  have hl := hc.le
  exact ⟨bl_cell hb2 c0, bl_cell hb2 c1, by rw [World.cell?_alloc_mark]; rfl, by rw [World.cell?_alloc_mark]; rfl, hc.below hb2, by rw [Below.heap_alloc _ _ _ (Array.getElem?_eq_some_iff.1 hrow).1]; exact hrow, by omega⟩

set_option maxHeartbeats 3200000 in
set_option maxRecDepth 100000 in
theorem commitEncodes_any (t : Int) (zs : List Int) (a : Option Addr) (cap : Nat) (h : Com w a zs cap) (hsm : cap + 2 ≤ 17592186044416) :
    Calls Try.prog 3 #[.agg #[.slice a zs.length cap, .int .i64 t]] w fun e w' => e = .returned (.bool true) ∧ Below w.heap.size w w' := by
  have HA := Lib.hid h
  clear h
  go_enter Try.func3, Try.ntmps3
  go_wp2_with (go_at_call 7; refine (cTells _).mono ?_; rintro e w1 ⟨rfl, hb⟩; have HB1 := Lib.hid (bl_trans (bl_alloc (Below.refl _ w) _) hb); have HA1 := Lib.hid ((HA.out.alloc _).below hb); have c0 := bl_cell hb (b := w.heap.size) (o := 0) (v := .slice a zs.length cap) (by rw [World.cell?_alloc_mark]; rfl); have c1 := bl_cell hb (b := w.heap.size) (o := 1) (v := .int .i64 t) (by rw [World.cell?_alloc_mark]; rfl); clear hb)
  go_wp2_with (go_at_call 8; refine (cCopied _ t zs a cap HA1.out).mono ?_; rintro e w2 ⟨g, rfl, hg, hrow, hb⟩; have HX := Lib.hid (both_mk c0 c1 HA1.out hsm hb hrow); have HB2 := Lib.hid (bl_trans HB1.out hb); clear hb hrow hg c0 c1)
  go_wp2_with (go_at_call 9; refine (cEncode _ t zs _ _ HX.out.copy).mono ?_; rintro e w4 ⟨rfl, hb⟩; have HX4 := Lib.hid (HX.out.below hb); have HB4 := Lib.hid (bl_trans (bl_alloc HB2.out _) hb); have c0 := HX4.out.c0; have c1 := HX4.out.c1; clear hb)
  go_wp2_with (go_at_call 10; refine (dEncode _ t zs _ _ HX4.out.com).mono ?_; rintro e w5 ⟨rfl, hb⟩; have HX5 := Lib.hid (HX4.out.below hb); have HB5 := Lib.hid (bl_trans HB4.out hb); clear hb c0 c1)
  have c0 := HX5.out.c0; have c1 := HX5.out.c1; have d0 := HX5.out.d0; have d1 := HX5.out.d1
  go_region_with (first
    | (go_at_call 13; refine (cKept _ t zs a cap g HX7.out.com hsm HX7.out.row).mono ?_; rintro e w8 ⟨rfl, hb⟩; have HB8 := Lib.hid (bl_trans HB7.out hb); clear hb)
    | (go_at_call 11; refine (cCheck _ t zs _ _ HX5.out.drew.copy.le HX5.out.drew.copy.max HX5.out.drew.copy.ints).mono ?_; rintro e w6 ⟨rfl, hb⟩; have HX6 := Lib.hid (HX5.out.drew.below hb); have HB6 := Lib.hid (bl_trans (bl_drew HB5.out) hb); have x0 := HX6.out.c0; have x1 := HX6.out.c1; have y0 := HX6.out.d0; have y1 := HX6.out.d1; clear hb)
    | (go_at_call 12; refine (dCheck _ t zs _ _ HX6.out.com.le HX6.out.com.max HX6.out.com.ints).mono ?_; rintro e w7 ⟨rfl, hb⟩; have HX7 := Lib.hid (HX6.out.below hb); have HB7 := Lib.hid (bl_trans HB6.out hb); have u0 := HX7.out.c0; have u1 := HX7.out.c1; have v0 := HX7.out.d0; have v1 := HX7.out.d1; clear hb))
  all_goals
    go_wp2
    go_ret
    exact ⟨rfl, HB8.out⟩
end
end Go.Proofs.Ytmmabkppadokkaa
