/- Walk of the law CommitSame. -/
import Derived.Test.YtmmabkppadokkaaCmL1
import Derived.Deep.RegionHeld3
set_option linter.unusedVariables false
set_option linter.unusedSimpArgs false
namespace Go.Proofs.Ytmmabkppadokkaa
open Go.RowKit PackMath

/-- Two commits, each in a box, at a world. -/
structure Duo (w : World) (p q : Nat) (a : Option Addr) (zs : List Int) (c : Nat) (t : Int) (b : Option Addr) (ys : List Int) (d : Nat) (u : Int) : Prop where
  c0 : w.cell? ⟨p, 0, none⟩ = some (.slice a zs.length c)
  c1 : w.cell? ⟨p, 1, none⟩ = some (.int .i64 t)
  d0 : w.cell? ⟨q, 0, none⟩ = some (.slice b ys.length d)
  d1 : w.cell? ⟨q, 1, none⟩ = some (.int .i64 u)
  ca : Com w a zs c
  cb : Com w b ys d
theorem Duo.below {w w' : World} {p q : Nat} {a : Option Addr} {zs : List Int} {c : Nat} {t : Int} {b : Option Addr} {ys : List Int} {d : Nat} {u : Int} (h : Duo w p q a zs c t b ys d u) (hb : Below w.heap.size w w') : Duo w' p q a zs c t b ys d u :=
  ⟨bl_cell hb h.c0, bl_cell hb h.c1, bl_cell hb h.d0, bl_cell hb h.d1, h.ca.below hb, h.cb.below hb⟩
theorem Duo.drew {w : World} {p q : Nat} {a : Option Addr} {zs : List Int} {c : Nat} {t : Int} {b : Option Addr} {ys : List Int} {d : Nat} {u : Int} (h : Duo w p q a zs c t b ys d u) : Duo w.drew p q a zs c t b ys d u :=
  h.below ((Below.refl _ _).drew)
theorem duo_mk {w : World} {a : Option Addr} {zs : List Int} {c : Nat} {t : Int} {b : Option Addr} {ys : List Int} {d : Nat} {u : Int} (ha : Com w a zs c) (hb : Com w b ys d) :
    Duo ((w.alloc (.cells #[.slice a zs.length c, .int .i64 t] 24)).alloc (.cells #[.slice b ys.length d, .int .i64 u] 24)) w.heap.size (w.heap.size + 1) a zs c t b ys d u := by
  have e : (w.alloc (.cells #[.slice a zs.length c, .int .i64 t] 24)).heap.size = w.heap.size + 1 := by simp
  have k := bl_alloc (Below.refl _ (w.alloc (.cells #[.slice a zs.length c, .int .i64 t] 24))) (.cells #[.slice b ys.length d, .int .i64 u] 24)
  refine ⟨bl_cell k (by rw [World.cell?_alloc_mark]; rfl), bl_cell k (by rw [World.cell?_alloc_mark]; rfl), ?_, ?_, (ha.alloc _).alloc _, (hb.alloc _).alloc _⟩
  · rw [← e, World.cell?_alloc_mark]; rfl
  · rw [← e, World.cell?_alloc_mark]; rfl

set_option maxHeartbeats 3200000 in
set_option maxRecDepth 100000 in
theorem commitSame_any (w : World) (t u : Int) (zs ys : List Int) (a b : Option Addr) (c d : Nat) (h : Com w a zs c) (k : Com w b ys d) (hsm : c + 2 ≤ 17592186044416) :
    Calls Try.prog 4 #[.agg #[.slice a zs.length c, .int .i64 t], .agg #[.slice b ys.length d, .int .i64 u]] w fun e w' => e = .returned (.bool true) ∧ Below w.heap.size w w' := by
  have HS := Lib.hid (sameB_self (t := t) (zs := zs))
  have HD := Lib.hid (duo_mk (t := t) (u := u) h k)
  have HB := Lib.hid (bl_alloc (bl_alloc (Below.refl _ w) (.cells #[.slice a zs.length c, .int .i64 t] 24)) (.cells #[.slice b ys.length d, .int .i64 u] 24))
  have hl := h.le
  clear h k
  go_enter Try.func4, Try.ntmps4
  go_wp2
  generalize (w.alloc (.cells #[.slice a zs.length c, .int .i64 t] 24)).alloc (.cells #[.slice b ys.length d, .int .i64 u] 24) = w2 at *
  go_region_held3 (fun w' => w'.cell? ⟨w.heap.size, 0, none⟩ = some (.slice a zs.length c) ∧ w'.cell? ⟨w.heap.size, 1, none⟩ = some (.int .i64 t) ∧ w'.cell? ⟨w.heap.size + 1, 0, none⟩ = some (.slice b ys.length d) ∧ w'.cell? ⟨w.heap.size + 1, 1, none⟩ = some (.int .i64 u))
    (first | exact ⟨H7.out.c0, H7.out.c1, H7.out.d0, H7.out.d1⟩ | exact ⟨H6.out.c0, H6.out.c1, H6.out.d0, H6.out.d1⟩ | exact ⟨H5.out.c0, H5.out.c1, H5.out.d0, H5.out.d1⟩ | exact ⟨H4.out.c0, H4.out.c1, H4.out.d0, H4.out.d1⟩ | exact ⟨H3.out.c0, H3.out.c1, H3.out.d0, H3.out.d1⟩ | exact ⟨HD.out.drew.c0, HD.out.drew.c1, HD.out.drew.d0, HD.out.drew.d1⟩ | exact ⟨HD.out.c0, HD.out.c1, HD.out.d0, HD.out.d1⟩)
    (first
      | (go_at_call 14; refine (cSame _ t t zs zs _ _ c (zs.length + 2) H6.out.ca HG.out).mono ?_; rintro e w7 ⟨rfl, hb⟩; rw [HS.out]; have H7 := Lib.hid (H6.out.below hb); have HB7 := Lib.hid (bl_trans HB6.out hb); clear hb)
      | (go_at_call 14; refine (cSame _ t u zs ys a b c d H3.out.ca H3.out.cb).mono ?_; rintro e w4 ⟨rfl, hb⟩; have H4 := Lib.hid (H3.out.below hb); have HB4 := Lib.hid (bl_trans HB3.out hb); clear hb)
      | (go_at_call 15; refine (dSame _ t u zs ys a b c d H4.out.ca H4.out.cb).mono ?_; rintro e w5 ⟨rfl, hb⟩; have H5 := Lib.hid (H4.out.below hb); have HB5 := Lib.hid (bl_trans HB4.out hb); clear hb)
      | (go_at_call 8; refine (cCopied _ t zs a c H5.out.ca).mono ?_; rintro e w6 ⟨g, rfl, hg, hrow, hb⟩; have H6 := Lib.hid (H5.out.below hb); have HG := Lib.hid (com_of_row (ms := [-77, -78]) hrow H5.out.ca.wf (by simp; omega)); have HB6 := Lib.hid (bl_trans HB5.out hb); clear hb hrow hg)
      | (go_at_call 7; refine (cTells _).mono ?_; rintro e w3 ⟨rfl, hb⟩; have H3 := Lib.hid (HD.out.drew.below hb); have HB3 := Lib.hid (bl_trans (bl_drew HB.out) hb); clear hb))
  all_goals
    go_wp2
    go_ret
    exact ⟨rfl, HB7.out⟩
end Go.Proofs.Ytmmabkppadokkaa
