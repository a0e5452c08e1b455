/- Layer 8: how two trees differ, by the program. -/
import Derived.Test.YtplegohebfajlaaTrRw
import Derived.Test.YtplegohebfajlaaTrFMath
import Derived.BigRegion
import Derived.BigQuiet
set_option linter.unusedVariables false
set_option linter.unusedSimpArgs false
namespace Go.Proofs.Ytplegohebfajlaa
open Go.RowKit TrMath

/-- What is still to be told. -/
structure DfAt (X Y : Ents) (w wr : World) (a b v : Value) (A B : Ents) (P : Chs) : Prop where
  sa : ∃ x c, a = .slice x A.length c ∧ A.length ≤ c ∧ c ≤ maxLen ∧ EnAt w x A
  sb : ∃ x c, b = .slice x B.length c ∧ B.length ≤ c ∧ c ≤ maxLen ∧ EnAt w x B
  own : OwnC wr w.heap.size v P
  eq : diffL X Y = P ++ diffL A B
  len : P.length + A.length + B.length ≤ X.length + Y.length
  na : ∀ e ∈ A, e.2 ≠ 0
  nb : ∀ e ∈ B, e.2 ≠ 0
  bel : Below w.heap.size w wr
def DiffSaid (X Y : Ents) (w : World) (e : Ending) (w' : World) : Prop := ∃ v, e = .returned v ∧ OwnC w' w.heap.size v (diffL X Y) ∧ Below w.heap.size w w'

theorem bl_setC {w x : World} (h : Below w.heap.size w x) {b o : Nat} (hb : w.heap.size ≤ b) (v : Value) : Below w.heap.size w (x.setCell ⟨b, o, none⟩ v) :=
  ⟨h.os, h.tape, h.output, by simp [World.setCell]; exact h.size, fun i hi => by rw [heap_setCell_other _ _ _ _ (by show i ≠ b; omega)]; exact h.block i hi⟩
theorem cells_trip' (W : World) (u v x : Value) (t : TypeId) {H : Nat} (h : W.heap.size = H) : ∀ (j : Nat) y, [u, v, x][j]? = some y → (W.alloc (.cells #[u, v, x] t)).cell? ((⟨H, 0, none⟩ : Addr).add j) = some y := by
  subst h; exact cells_trip W u v x t
theorem diff_1 {X Y A : Ents} {P : Chs} {p : ByteArray} {x : Int} (h : diffL X Y = P ++ diffL ((p, x) :: A) []) : diffL X Y = (P ++ [(p, x, 0)]) ++ diffL A [] := by
  rw [h, diffL]; simp
theorem diff_2 {X Y A : Ents} {P : Chs} {p : ByteArray} {x : Int} (h : diffL X Y = P ++ diffL [] ((p, x) :: A)) : diffL X Y = (P ++ [(p, 0, x)]) ++ diffL [] A := by
  rw [h, diffL]; simp
theorem diff_3 {X Y A B : Ents} {P : Chs} {p q : ByteArray} {x y : Int} (h : diffL X Y = P ++ diffL ((p, x) :: A) ((q, y) :: B)) (k : ltB p q = true) : diffL X Y = (P ++ [(p, x, 0)]) ++ diffL A ((q, y) :: B) := by
  rw [h, diffL, if_pos k]; simp
theorem diff_4 {X Y A B : Ents} {P : Chs} {p q : ByteArray} {x y : Int} (h : diffL X Y = P ++ diffL ((p, x) :: A) ((q, y) :: B)) (k : ltB q p = true) : diffL X Y = (P ++ [(q, 0, y)]) ++ diffL ((p, x) :: A) B := by
  rw [h, diffL, if_neg (by rw [ltB_asym k]; decide), if_pos k]; simp
theorem diff_5 {X Y A B : Ents} {P : Chs} {p : ByteArray} {x y : Int} (h : diffL X Y = P ++ diffL ((p, x) :: A) ((p, y) :: B)) (k : x ≠ y) : diffL X Y = (P ++ [(p, x, y)]) ++ diffL A B := by
  have e : ltB p p = false := Bool.eq_false_iff.2 fun c => ltB_ne c rfl
  rw [h, diffL]; simp [e, k]
theorem diff_6 {X Y A B : Ents} {P : Chs} {p : ByteArray} {x : Int} (h : diffL X Y = P ++ diffL ((p, x) :: A) ((p, x) :: B)) : diffL X Y = P ++ diffL A B := by
  have e : ltB p p = false := Bool.eq_false_iff.2 fun c => ltB_ne c rfl
  rw [h, diffL]; simp [e]
theorem sl_tail {w : World} {b o n c : Nat} {e : ByteArray × Int} {A : Ents} (h : EnAt w (some ⟨b, o, none⟩) (e :: A)) (hn : A.length = n) (h1 : n + 1 ≤ c) (h2 : c ≤ maxLen) : ∃ x d, Value.slice (if c = 1 then some ⟨b, o, none⟩ else some ⟨b, o + 2, none⟩) n (c - 1) = .slice x A.length d ∧ A.length ≤ d ∧ d ≤ maxLen ∧ EnAt w x A := by
  subst hn
  split
  · rename_i k
    obtain rfl : A = [] := List.eq_nil_of_length_eq_zero (by omega)
    exact ⟨_, _, rfl, by simp, by omega, EnAt.none _ _⟩
  · exact ⟨_, _, rfl, by omega, by omega, h.tail⟩

theorem sl_tail1 {w : World} {b o n : Nat} {A : Ents} (hn : A.length = n) (h1 : n + 1 ≤ 1) : ∃ x d, Value.slice (some ⟨b, o, none⟩) n 0 = .slice x A.length d ∧ A.length ≤ d ∧ d ≤ maxLen ∧ EnAt w x A := by
  subst hn
  obtain rfl : A = [] := List.eq_nil_of_length_eq_zero (by omega)
  exact ⟨_, _, rfl, by simp, by simp [maxLen], EnAt.none _ _⟩
theorem sl_tail2 {w : World} {b o n c : Nat} {e : ByteArray × Int} {A : Ents} (h : EnAt w (some ⟨b, o, none⟩) (e :: A)) (hn : A.length = n) (h1 : n + 1 ≤ c) (h2 : c ≤ maxLen) : ∃ x d, Value.slice (some ⟨b, o + 2, none⟩) n (c - 1) = .slice x A.length d ∧ A.length ≤ d ∧ d ≤ maxLen ∧ EnAt w x A := by
  subst hn; exact ⟨_, _, rfl, by omega, by omega, h.tail⟩
theorem box_two {w : World} {b i j : Nat} {cs ds : Array Value} {t : TypeId} (h : w.heap[b]? = some (.cells cs t (0, 0))) (u v : Value) (e : (cs.setIfInBounds i u).setIfInBounds j v = ds) : (w.setCell ⟨b, i, none⟩ u).setCell ⟨b, j, none⟩ v = w.setRow b ds := by
  have h1 := heap_setCell_same w b i cs t u h
  rw [setCell_eq_setRow _ b j _ t (0, 0) v h1, setCell_eq_setRow _ b i _ t (0, 0) u h, setRow_setRow, e]
theorem box_set {w : World} {b i j : Nat} {cs ds : Array Value} {t : TypeId} (h : w.heap[b]? = some (.cells cs t (0, 0))) (u v : Value) (e : (cs.setIfInBounds i u).setIfInBounds j v = ds) : (((w.setCell ⟨b, i, none⟩ u).setCell ⟨b, j, none⟩ v).drew).heap[b]? = some (.cells ds t (0, 0)) := by
  subst e
  exact heap_setCell_same _ b j _ t v (heap_setCell_same w b i cs t u h)
/-- The box of a change, as it lies. -/
structure CBox (w : World) (b : Nat) (p : ByteArray) (x y : Int) : Prop where
  row : w.heap[b]? = some (.cells #[.string p, .int .u32 x, .int .u32 y] 61 (0, 0))
theorem CBox.cells {w : World} {b : Nat} {p : ByteArray} {x y : Int} (h : CBox w b p x y) : w.cell? ⟨b, 0, none⟩ = some (.string p) ∧ w.cell? ⟨b, 1, none⟩ = some (.int .u32 x) ∧ w.cell? ⟨b, 2, none⟩ = some (.int .u32 y) ∧ w.frozen? ⟨b, 0, none⟩ = false ∧ w.frozen? ⟨b, 1, none⟩ = false ∧ w.frozen? ⟨b, 2, none⟩ = false :=
  ⟨by rw [cell_of_row _ _ _ _ _ _ h.row]; rfl, by rw [cell_of_row _ _ _ _ _ _ h.row]; rfl, by rw [cell_of_row _ _ _ _ _ _ h.row]; rfl, frozen_of_row _ _ _ _ _ h.row, frozen_of_row _ _ _ _ _ h.row, frozen_of_row _ _ _ _ _ h.row⟩
theorem CBox.old {w : World} {b : Nat} {p q : ByteArray} {x y z : Int} (h : CBox w b p x y) : (w.setCell ⟨b, 1, none⟩ (.int .u32 z)).setCell ⟨b, 0, none⟩ (.string q) = (w.setCell ⟨b, 0, none⟩ (.string q)).setCell ⟨b, 1, none⟩ (.int .u32 z) ∧ CBox ((w.setCell ⟨b, 0, none⟩ (.string q)).setCell ⟨b, 1, none⟩ (.int .u32 z)).drew b q z y :=
  ⟨by rw [box_two h.row _ _ rfl, box_two h.row _ _ rfl]; rfl, ⟨box_set h.row _ _ rfl⟩⟩
theorem CBox.new {w : World} {b : Nat} {p q : ByteArray} {x y z : Int} (h : CBox w b p x y) : (w.setCell ⟨b, 2, none⟩ (.int .u32 z)).setCell ⟨b, 0, none⟩ (.string q) = (w.setCell ⟨b, 0, none⟩ (.string q)).setCell ⟨b, 2, none⟩ (.int .u32 z) ∧ CBox ((w.setCell ⟨b, 0, none⟩ (.string q)).setCell ⟨b, 2, none⟩ (.int .u32 z)).drew b q x z :=
  ⟨by rw [box_two h.row _ _ rfl, box_two h.row _ _ rfl]; rfl, ⟨box_set h.row _ _ rfl⟩⟩
theorem gb_over {w v x y : World} {r : Option Nat} (h : Below w.heap.size w v) (k : Below v.heap.size v x) (g : x.grownBy y r) (hr : ∀ i, r = some i → w.heap.size ≤ i) : Below w.heap.size w y :=
  gb_to_below (bl_trans h k) g (bl_trans h k).size hr

set_option maxHeartbeats 20000000 in
set_option maxRecDepth 100000 in
theorem tDiff (X Y : Ents) (hX : ∀ e ∈ X, e.2 ≠ 0) (hY : ∀ e ∈ Y, e.2 ≠ 0) (a b : Option Addr) (c d : Nat) (hc : X.length ≤ c) (hd : Y.length ≤ d) (hcm : c ≤ maxLen) (hdm : d ≤ maxLen) (hl : X.length + Y.length ≤ 1000000000) (w : World) (h : EnAt w a X) (k : EnAt w b Y) :
    Calls Try.prog 26 #[.slice a X.length c, .slice b Y.length d] w (DiffSaid X Y w) := by
  obtain ⟨i0, hi, hz0, hz1, hz2⟩ := info_parts infoChange
  have HST := Lib.hid (show DfAt X Y w w (.slice a X.length c) (.slice b Y.length d) (.slice none 0 0) X Y [] from ⟨⟨_, _, rfl, hc, hcm, h⟩, ⟨_, _, rfl, hd, hdm, k⟩, OwnC.nil _ _, rfl, by simp, hX, hY, Below.refl _ _⟩)
  have HBP := Lib.hid (fun p v q W => tByPath p v q W)
  clear hX hY h k hc hd hcm hdm
  go_enter Try.func26, Try.ntmps26
  go_wp2
  go_loopw [0, 1, 5] (fun av bv lv wr => ∃ A B P, DfAt X Y w wr av bv lv A B P) (fun av bv _ _ => slLen av + slLen bv)
  case atStart => exact ⟨_, _, _, HST.out⟩
  case round =>
    obtain ⟨A, B, P, hat⟩ := hrel
    obtain ⟨a1, c1, rfl, hA1, hA2, hA3⟩ := hat.sa
    obtain ⟨b1, d1, rfl, hB1, hB2, hB3⟩ := hat.sb
    have HO := Lib.hid hat.own; have HE := Lib.hid hat.eq; have HNA := Lib.hid hat.na; have HNB := Lib.hid hat.nb; have HB := Lib.hid hat.bel
    have hln := hat.len
    have hws := hat.bel.size
    have HA := Lib.hid hA3; have HBB := Lib.hid hB3
    clear hat hA3 hB3
    cases A with
    | nil =>
      cases B with
      | nil =>
        have HR := Lib.hid (show diffL X Y = P by rw [HE.out, diffL]; simp)
        go_wp2
        go_ret
        exact ⟨_, rfl, by rw [HR.out]; exact HO.out, HB.out⟩
      | cons e B =>
        obtain ⟨ab, ao, rfl, hab, p1, p2⟩ := (HBB.out).head
        obtain ⟨p, x⟩ := e
        have hx : (x == 0) = false := by have := HNB.out (p, x) (by simp); simpa using this
        have hx2 : ((0 : Int) == x) = false := by have := hx; simp at this ⊢; omega
        have hx3 : ((0 : Int) != x) = true := by simp [bne, hx2]
        have hx' : (x != 0) = true := by simp [bne, hx]
        have HE2 := Lib.hid (diff_2 HE.out)
        obtain ⟨n, hn⟩ : ∃ n, B.length = n := ⟨_, rfl⟩
        simp only [List.length_cons, List.length_nil, hn] at hB1 hln ⊢
        have HN := Lib.hid hn
        have g1 := bl_cell HB.out p1
        have g2 := bl_cell HB.out p2
        have HP1 := fun o => bl_cell (bl_alloc (Below.refl _ wr) o) g1
        have HP2 := fun o => bl_cell (bl_alloc (Below.refl _ wr) o) g2
        clear g1 g2 p1 p2 hn
        go_wp2_with fail
        go_region
        all_goals go_wp2_with (refine wpList_append_lies _ rfl (.tmp 73) (.tmp 75) 58 rfl w.heap.size 61 i0 (.agg #[.string ⟨#[]⟩, .int .u32 0, .int .u32 0]) 3 24 Try.underlying58 hi hz0 hz1 hz2 rfl (by decide) _ P.length (chCells P) rfl (HO.out.below ?hb1) ⟨wr.heap.size + 1, 0, none⟩ 1 1 [.string p, .int .u32 0, .int .u32 x] rfl rfl (cells_trip' _ _ _ _ _ (by simp)) (one_trip _ _ _) (by decide) (by unfold maxLen; omega) (by omega) (by simp; omega) (wr.heap.size + 2) (by simp) ?_; (case hb1 => exact (bl_alloc (bl_drew (bl_alloc (Below.refl _ wr) _)) _)); intro gg cp w5 hown hg hat hlt5; have HO5 := Lib.hid hown; have HB5 := Lib.hid (gb_to_below (bl_alloc (bl_drew (bl_alloc HB.out _)) _) hg (bl_alloc (bl_drew (bl_alloc HB.out _)) _).size (fun i hi => (HO.out.lt i hi).1)); clear hown hg hat hlt5)
        all_goals go_roundw
        case rel => exact ⟨_, _, _, ⟨⟨_, _, rfl, hA1, hA2, HA.out⟩, by exact sl_tail HBB.out HN.out (by omega) hB2, OwnC.push HO5.out, HE2.out, by have h1 := HN.out; rw [List.length_append]; simp; omega, HNA.out, fun e he => HNB.out e (by simp [he]), HB5.out⟩⟩
        case measure => simp [slLen]
    | cons e A =>
      cases B with
      | nil =>
        obtain ⟨ab, ao, rfl, hab, p1, p2⟩ := (HA.out).head
        obtain ⟨p, x⟩ := e
        have hx : (x == 0) = false := by have := HNA.out (p, x) (by simp); simpa using this
        have hx' : (x != 0) = true := by simp [bne, hx]
        have HE2 := Lib.hid (diff_1 HE.out)
        obtain ⟨n, hn⟩ : ∃ n, A.length = n := ⟨_, rfl⟩
        simp only [List.length_cons, List.length_nil, hn] at hA1 hln ⊢
        have HN := Lib.hid hn
        have g1 := bl_cell HB.out p1
        have g2 := bl_cell HB.out p2
        have HP1 := fun o => bl_cell (bl_alloc (Below.refl _ wr) o) g1
        have HP2 := fun o => bl_cell (bl_alloc (Below.refl _ wr) o) g2
        clear g1 g2 p1 p2 hn
        go_wp2_with fail
        go_region
        all_goals go_wp2_with (refine wpList_append_lies _ rfl (.tmp 73) (.tmp 75) 58 rfl w.heap.size 61 i0 (.agg #[.string ⟨#[]⟩, .int .u32 0, .int .u32 0]) 3 24 Try.underlying58 hi hz0 hz1 hz2 rfl (by decide) _ P.length (chCells P) rfl (HO.out.below ?hb1) ⟨wr.heap.size + 1, 0, none⟩ 1 1 [.string p, .int .u32 x, .int .u32 0] rfl rfl (cells_trip' _ _ _ _ _ (by simp)) (one_trip _ _ _) (by decide) (by unfold maxLen; omega) (by omega) (by simp; omega) (wr.heap.size + 2) (by simp) ?_; (case hb1 => exact (bl_alloc (bl_drew (bl_alloc (Below.refl _ wr) _)) _)); intro gg cp w5 hown hg hat hlt5; have HO5 := Lib.hid hown; have HB5 := Lib.hid (gb_to_below (bl_alloc (bl_drew (bl_alloc HB.out _)) _) hg (bl_alloc (bl_drew (bl_alloc HB.out _)) _).size (fun i hi => (HO.out.lt i hi).1)); clear hown hg hat hlt5)
        all_goals go_roundw
        case rel => exact ⟨_, _, _, ⟨(by first | exact sl_tail HA.out HN.out (by omega) hA2 | exact sl_tail1 HN.out (by omega) | exact sl_tail2 HA.out HN.out (by omega) hA2), ⟨_, _, rfl, hB1, hB2, HBB.out⟩, OwnC.push HO5.out, HE2.out, by have h1 := HN.out; rw [List.length_append]; simp; omega, fun e he => HNA.out e (by simp [he]), HNB.out, HB5.out⟩⟩
        case measure => simp [slLen]
      | cons f B =>
        obtain ⟨ab, ao, rfl, hab, p1, p2⟩ := (HA.out).head
        obtain ⟨bb, bo, rfl, hbb, q1, q2⟩ := (HBB.out).head
        obtain ⟨p, x⟩ := e
        obtain ⟨q, y⟩ := f
        obtain ⟨n, hn⟩ : ∃ n, A.length = n := ⟨_, rfl⟩
        obtain ⟨m, hm⟩ : ∃ m, B.length = m := ⟨_, rfl⟩
        have hab' : ab < wr.heap.size := by omega
        have hbb' : bb < wr.heap.size := by omega
        have hx : (x == 0) = false := by have := HNA.out (p, x) (by simp); simpa using this
        have hx' : (x != 0) = true := by simp [bne, hx]
        have hy2 : ((0 : Int) == y) = false := by have := HNB.out (q, y) (by simp); simp at this ⊢; omega
        have hy3 : ((0 : Int) != y) = true := by simp [bne, hy2]
        obtain ⟨r, hr⟩ : ∃ r, cmpP p q = r := ⟨_, rfl⟩
        have HR := Lib.hid (fun W => (show Calls Try.prog 29 #[.agg #[.string p, .int .u32 x], .string q] W fun e w' => e = .returned (.int .i64 r) ∧ Below W.heap.size W w' by rw [← hr]; exact HBP.out p x q W))
        have hlt := cmpP_lt p q; have heq := cmpP_eq p q
        rw [hr] at hlt heq
        simp only [List.length_cons, List.length_nil, hn, hm] at hA1 hB1 hln ⊢
        have HN := Lib.hid hn; have HM := Lib.hid hm
        have g1 := bl_cell HB.out p1
        have g2 := bl_cell HB.out p2
        have g3 := bl_cell HB.out q1
        have g4 := bl_cell HB.out q2
        have HP1 := bl_cell (bl_alloc (Below.refl _ wr) (.cells #[.string ⟨#[]⟩, .int .u32 0, .int .u32 0] 61)) g1
        have HP2 := bl_cell (bl_alloc (Below.refl _ wr) (.cells #[.string ⟨#[]⟩, .int .u32 0, .int .u32 0] 61)) g2
        have HP3 := bl_cell (bl_alloc (Below.refl _ wr) (.cells #[.string ⟨#[]⟩, .int .u32 0, .int .u32 0] 61)) g3
        have HP4 := bl_cell (bl_alloc (Below.refl _ wr) (.cells #[.string ⟨#[]⟩, .int .u32 0, .int .u32 0] 61)) g4
        have HG := Lib.hid (And.intro (And.intro g1 g2) (And.intro g3 g4))
        clear g1 g2 g3 g4 p1 p2 q1 q2 hn hm hr
        go_wp2_with fail
        go_region_held3 (fun w' => w'.cell? ⟨ab, ao, none⟩ = some (.string p) ∧ w'.cell? ⟨ab, ao + 1, none⟩ = some (.int .u32 x) ∧ w'.cell? ⟨bb, bo, none⟩ = some (.string q) ∧ w'.cell? ⟨bb, bo + 1, none⟩ = some (.int .u32 y))
          (first | exact HCY.out | exact ⟨HP1, HP2, HP3, HP4⟩)
          (first | (go_at_call 29; (with_reducible refine (HR.out _).mono ?_); rintro r w4 ⟨rfl, hb⟩; have hb4 := bl_trans (bl_drew (Below.refl _ (wr.alloc (.cells #[.string ⟨#[]⟩, .int .u32 0, .int .u32 0] 61)))) hb; have HB4 := Lib.hid hb4; have HCY := Lib.hid (show w4.cell? ⟨ab, ao, none⟩ = some (.string p) ∧ w4.cell? ⟨ab, ao + 1, none⟩ = some (.int .u32 x) ∧ w4.cell? ⟨bb, bo, none⟩ = some (.string q) ∧ w4.cell? ⟨bb, bo + 1, none⟩ = some (.int .u32 y) from ⟨bl_cell hb4 HP1, bl_cell hb4 HP2, bl_cell hb4 HP3, bl_cell hb4 HP4⟩); clear hb hb4))
        have hb0 := bl_trans (bl_alloc (Below.refl _ wr) (.cells #[.string ⟨#[]⟩, .int .u32 0, .int .u32 0] 61)) HB4.out
        have hw4 := hb0.size
        have HB6 := Lib.hid hb0
        have HX4 := Lib.hid (show CBox w4 wr.heap.size ⟨#[]⟩ 0 0 from ⟨by rw [HB4.out.block wr.heap.size (by simp)]; exact heap_alloc_new _ _⟩)
        clear hb0 HP1 HP2 HP3 HP4
        obtain ⟨k1, k2, k3, k4⟩ := HCY.out
        have hwz : w.heap.size ≤ w4.heap.size := by omega
        rcases Int.lt_trichotomy r 0 with hr | hr | hr
        · have HE2 := Lib.hid (diff_3 HE.out (hlt.1 hr))
          clear hlt heq
          have HX7 := Lib.hid (CBox.old HX4.out (q := p) (z := x)).2
          have hcm := (CBox.old HX4.out (q := p) (z := x)).1
          obtain ⟨x0, x1, x2, f0, f1, f2⟩ := HX4.out.cells
          have hb0 := bl_drew (bl_setC (bl_setC HB6.out (Nat.le_refl _) (o := 0) (.string p)) (Nat.le_refl _) (o := 1) (.int .u32 x))
          obtain ⟨w7, h7⟩ : ∃ w7 : World, ((w4.setCell ⟨wr.heap.size, 0, none⟩ (.string p)).setCell ⟨wr.heap.size, 1, none⟩ (.int .u32 x)).drew = w7 := ⟨_, rfl⟩
          rw [h7] at HX7 hb0
          have HW7 := Lib.hid h7
          clear h7
          go_wp2_with fail
          go_region
          all_goals rw [HW7.out]
          all_goals clear HW7 hcm x0 x1 x2 f0 f1 f2 k1 k2 k3 k4 HB6
          all_goals have HB6 := Lib.hid hb0
          all_goals obtain ⟨⟨k1, k2⟩, k3, k4⟩ := HG.out
          all_goals replace k1 := bl_cell HB6.out k1
          all_goals replace k2 := bl_cell HB6.out k2
          all_goals replace k3 := bl_cell HB6.out k3
          all_goals replace k4 := bl_cell HB6.out k4
          all_goals have hwz := Nat.le_trans hws hb0.size
          all_goals clear hb0
          all_goals obtain ⟨x0, x1, x2, f0, f1, f2⟩ := HX7.out.cells
          all_goals go_wp2_with (refine wpList_append_lies _ rfl (.tmp 73) (.tmp 75) 58 rfl w.heap.size 61 i0 (.agg #[.string ⟨#[]⟩, .int .u32 0, .int .u32 0]) 3 24 Try.underlying58 hi hz0 hz1 hz2 rfl (by decide) _ P.length (chCells P) rfl (HO.out.below (bl_alloc HB6.out _)) _ 1 1 [.string p, .int .u32 x, .int .u32 0] rfl rfl (cells_trip' _ _ _ _ _ rfl) (one_trip _ _ _) (by decide) (by unfold maxLen; omega) (by omega) (by simp; omega) _ rfl ?_; intro gg cp w5 hown hg hat hlt5; have HO5 := Lib.hid hown; have HB5 := Lib.hid (gb_over HB.out (bl_alloc HB6.out _) hg (fun i hi => (HO.out.lt i hi).1)); clear hown hg hat hlt5)
          all_goals go_roundw
          all_goals (first
            | exact ⟨_, _, _, (by first | exact sl_tail HA.out HN.out (by omega) hA2 | exact sl_tail1 HN.out (by omega) | exact sl_tail2 HA.out HN.out (by omega) hA2), ⟨_, _, by rw [List.length_cons, HM.out], by rw [List.length_cons, HM.out]; exact hB1, hB2, HBB.out⟩, OwnC.push HO5.out, HE2.out, by have h1 := HN.out; have h2 := HM.out; rw [List.length_append]; simp; omega, fun e he => HNA.out e (by simp [he]), HNB.out, HB5.out⟩
            | (simp [slLen]; omega)
            | (simp [slLen]; done))
        · obtain rfl := heq.1 hr
          clear hlt heq
          have HX7 := Lib.hid (CBox.old HX4.out (q := p) (z := x)).2
          have hcm := (CBox.old HX4.out (q := p) (z := x)).1
          obtain ⟨x0, x1, x2, f0, f1, f2⟩ := HX4.out.cells
          have hb0 := bl_drew (bl_setC (bl_setC HB6.out (Nat.le_refl _) (o := 0) (.string p)) (Nat.le_refl _) (o := 1) (.int .u32 x))
          obtain ⟨w7, h7⟩ : ∃ w7 : World, ((w4.setCell ⟨wr.heap.size, 0, none⟩ (.string p)).setCell ⟨wr.heap.size, 1, none⟩ (.int .u32 x)).drew = w7 := ⟨_, rfl⟩
          rw [h7] at HX7 hb0
          have HW7 := Lib.hid h7
          clear h7
          go_wp2_with fail
          go_region
          all_goals rw [HW7.out]
          all_goals clear HW7 hcm x0 x1 x2 f0 f1 f2 k1 k2 k3 k4 HB6
          all_goals have HB6 := Lib.hid hb0
          all_goals obtain ⟨⟨k1, k2⟩, k3, k4⟩ := HG.out
          all_goals replace k1 := bl_cell HB6.out k1
          all_goals replace k2 := bl_cell HB6.out k2
          all_goals replace k3 := bl_cell HB6.out k3
          all_goals replace k4 := bl_cell HB6.out k4
          all_goals have hwz := Nat.le_trans hws hb0.size
          all_goals clear hb0
          all_goals have HX8 := Lib.hid (CBox.new HX7.out (q := p) (z := y)).2
          all_goals have hcm := (CBox.new HX7.out (q := p) (z := y)).1
          all_goals obtain ⟨x0, x1, x2, f0, f1, f2⟩ := HX7.out.cells
          all_goals have hb0 := bl_drew (bl_setC (bl_setC HB6.out (Nat.le_refl _) (o := 0) (.string p)) (Nat.le_refl _) (o := 2) (.int .u32 y))
          all_goals obtain ⟨w8, h8⟩ : ∃ w8 : World, ((w7.setCell ⟨wr.heap.size, 0, none⟩ (.string p)).setCell ⟨wr.heap.size, 2, none⟩ (.int .u32 y)).drew = w8 := ⟨_, rfl⟩
          all_goals rw [h8] at HX8 hb0
          all_goals have HW8 := Lib.hid h8
          all_goals clear h8
          all_goals go_wp2_with fail
          all_goals go_region
          all_goals rw [HW8.out]
          all_goals clear HW8 hcm x0 x1 x2 f0 f1 f2 k1 k2 k3 k4 HB6
          all_goals have HB6 := Lib.hid hb0
          all_goals obtain ⟨⟨k1, k2⟩, k3, k4⟩ := HG.out
          all_goals replace k1 := bl_cell HB6.out k1
          all_goals replace k2 := bl_cell HB6.out k2
          all_goals replace k3 := bl_cell HB6.out k3
          all_goals replace k4 := bl_cell HB6.out k4
          all_goals have hwz := Nat.le_trans hws hb0.size
          all_goals clear hb0
          all_goals obtain ⟨x0, x1, x2, f0, f1, f2⟩ := HX8.out.cells
          all_goals
            by_cases hxy : x = y
            · subst hxy
              have hxx : (x != x) = false := by simp
              have HE2 := Lib.hid (diff_6 HE.out)
              all_goals go_wp2_with fail
              all_goals refine ⟨⟨_, _, _, (by first | exact sl_tail HA.out HN.out (by omega) hA2 | exact sl_tail1 HN.out (by omega) | exact sl_tail2 HA.out HN.out (by omega) hA2), (by first | exact sl_tail HBB.out HM.out (by omega) hB2 | exact sl_tail1 HM.out (by omega) | exact sl_tail2 HBB.out HM.out (by omega) hB2), HO.out.below HB6.out, HE2.out, by have h1 := HN.out; have h2 := HM.out; omega, fun e he => HNA.out e (by simp [he]), fun e he => HNB.out e (by simp [he]), bl_trans HB.out HB6.out⟩, ?_⟩
              all_goals (simp [slLen]; omega)
            · have hxx : (x != y) = true := by simpa using hxy
              have hxx2 : (x == y) = false := by simpa using hxy
              have HE2 := Lib.hid (diff_5 HE.out hxy)
              all_goals go_wp2_with (refine wpList_append_lies _ rfl (.tmp 73) (.tmp 75) 58 rfl w.heap.size 61 i0 (.agg #[.string ⟨#[]⟩, .int .u32 0, .int .u32 0]) 3 24 Try.underlying58 hi hz0 hz1 hz2 rfl (by decide) _ P.length (chCells P) rfl (HO.out.below (bl_alloc HB6.out _)) _ 1 1 [.string p, .int .u32 x, .int .u32 y] rfl rfl (cells_trip' _ _ _ _ _ rfl) (one_trip _ _ _) (by decide) (by unfold maxLen; omega) (by omega) (by simp; omega) _ rfl ?_; intro gg cp w5 hown hg hat hlt5; have HO5 := Lib.hid hown; have HB5 := Lib.hid (gb_over HB.out (bl_alloc HB6.out _) hg (fun i hi => (HO.out.lt i hi).1)); clear hown hg hat hlt5)
              all_goals go_roundw
              all_goals (first
                | exact ⟨_, _, _, (by first | exact sl_tail HA.out HN.out (by omega) hA2 | exact sl_tail1 HN.out (by omega) | exact sl_tail2 HA.out HN.out (by omega) hA2), (by first | exact sl_tail HBB.out HM.out (by omega) hB2 | exact sl_tail1 HM.out (by omega) | exact sl_tail2 HBB.out HM.out (by omega) hB2), OwnC.push HO5.out, HE2.out, by have h1 := HN.out; have h2 := HM.out; rw [List.length_append]; simp; omega, fun e he => HNA.out e (by simp [he]), fun e he => HNB.out e (by simp [he]), HB5.out⟩
                | (simp [slLen]; omega)
                | (simp [slLen]; done))
        · have hq : ltB q p = true := by
            rcases Bool.eq_false_or_eq_true (ltB q p) with c | c
            · exact c
            · have h1 : ltB p q = false := Bool.eq_false_iff.2 fun c2 => by have := hlt.2 c2; omega
              have := heq.2 (ltB_tri h1 c)
              omega
          have HE2 := Lib.hid (diff_4 HE.out hq)
          clear hlt heq hq
          have HX7 := Lib.hid (CBox.new HX4.out (q := q) (z := y)).2
          have hcm := (CBox.new HX4.out (q := q) (z := y)).1
          obtain ⟨x0, x1, x2, f0, f1, f2⟩ := HX4.out.cells
          have hb0 := bl_drew (bl_setC (bl_setC HB6.out (Nat.le_refl _) (o := 0) (.string q)) (Nat.le_refl _) (o := 2) (.int .u32 y))
          obtain ⟨w7, h7⟩ : ∃ w7 : World, ((w4.setCell ⟨wr.heap.size, 0, none⟩ (.string q)).setCell ⟨wr.heap.size, 2, none⟩ (.int .u32 y)).drew = w7 := ⟨_, rfl⟩
          rw [h7] at HX7 hb0
          have HW7 := Lib.hid h7
          clear h7
          go_wp2_with fail
          go_region
          all_goals rw [HW7.out]
          all_goals clear HW7 hcm x0 x1 x2 f0 f1 f2 k1 k2 k3 k4 HB6
          all_goals have HB6 := Lib.hid hb0
          all_goals obtain ⟨⟨k1, k2⟩, k3, k4⟩ := HG.out
          all_goals replace k1 := bl_cell HB6.out k1
          all_goals replace k2 := bl_cell HB6.out k2
          all_goals replace k3 := bl_cell HB6.out k3
          all_goals replace k4 := bl_cell HB6.out k4
          all_goals have hwz := Nat.le_trans hws hb0.size
          all_goals clear hb0
          all_goals obtain ⟨x0, x1, x2, f0, f1, f2⟩ := HX7.out.cells
          all_goals go_wp2_with (refine wpList_append_lies _ rfl (.tmp 73) (.tmp 75) 58 rfl w.heap.size 61 i0 (.agg #[.string ⟨#[]⟩, .int .u32 0, .int .u32 0]) 3 24 Try.underlying58 hi hz0 hz1 hz2 rfl (by decide) _ P.length (chCells P) rfl (HO.out.below (bl_alloc HB6.out _)) _ 1 1 [.string q, .int .u32 0, .int .u32 y] rfl rfl (cells_trip' _ _ _ _ _ rfl) (one_trip _ _ _) (by decide) (by unfold maxLen; omega) (by omega) (by simp; omega) _ rfl ?_; intro gg cp w5 hown hg hat hlt5; have HO5 := Lib.hid hown; have HB5 := Lib.hid (gb_over HB.out (bl_alloc HB6.out _) hg (fun i hi => (HO.out.lt i hi).1)); clear hown hg hat hlt5)
          all_goals go_roundw
          all_goals (first
            | exact ⟨_, _, _, ⟨_, _, by rw [List.length_cons, HN.out], by rw [List.length_cons, HN.out]; exact hA1, hA2, HA.out⟩, (by first | exact sl_tail HBB.out HM.out (by omega) hB2 | exact sl_tail1 HM.out (by omega) | exact sl_tail2 HBB.out HM.out (by omega) hB2), OwnC.push HO5.out, HE2.out, by have h1 := HN.out; have h2 := HM.out; rw [List.length_append]; simp; omega, HNA.out, fun e he => HNB.out e (by simp [he]), HB5.out⟩
            | (simp [slLen]; omega)
            | (simp [slLen]; done))
end Go.Proofs.Ytplegohebfajlaa
