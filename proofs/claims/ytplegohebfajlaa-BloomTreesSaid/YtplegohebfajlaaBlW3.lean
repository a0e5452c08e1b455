/- Walks of layer 13: the places of a path. -/
import Derived.Test.YtplegohebfajlaaBlW2
import Derived.Test.YtplegohebfajlaaPackW1
import Derived.Deep.RegionHeld3
set_option linter.unusedVariables false
set_option linter.unusedSimpArgs false
namespace Go.Proofs.Ytplegohebfajlaa
open Go.RowKit BlMath

theorem infoInt : (Try.prog.info? 3).map (fun i => (i.zero, i.size, i.bytes)) = some (some (.int .i64 0), 1, 8) := by kernel_rfl
theorem below_ownE {B e n : Nat} {w w1 : World} {v : Value} {xs : List Value} (h : w.ownsRow B e 1 v n xs) {o : Obj} (hg : (w.alloc o).grownBy w1 v.ownBlock) (hB : B ≤ w.heap.size) : Below B w w1 :=
  ⟨hg.os, hg.tape, hg.output, by have := hg.size; simp at this; omega, fun k hk => by
    rw [hg.block k (by simp; omega) (fun e => by have := (h.lt k e.symm).1; omega), Below.heap_alloc w o k (by omega)]⟩
def natsV (l : List Nat) : List Value := l.map fun k => Value.int .i64 (k : Nat)
theorem natsV_append (l m : List Nat) : natsV (l ++ m) = natsV l ++ natsV m := by simp [natsV]
theorem natsV_length (l : List Nat) : (natsV l).length = l.length := by simp [natsV]
/-- What the places are told as. -/
def PlSaid (l : List Nat) (w : World) (r : Ending) (w' : World) : Prop := ∃ v, r = .returned v ∧ w'.ownsRow w.heap.size 3 1 v l.length (natsV l) ∧ Below w.heap.size w w'
theorem step_val (x b : Nat) : IntKind.u32.wrap ((x : Int) + (b : Int)) = (((x + b) % 4294967296 : Nat) : Int) ∧ ((x : Int) + (b : Int)) % 4294967296 = (((x + b) % 4294967296 : Nat) : Int) := by
  rw [IntKind.wrap_u32]; omega
theorem rem_val (x n : Nat) : (x : Int).tmod (n : Int) = ((x % n : Nat) : Int) ∧ (x : Int) % (n : Int) = ((x % n : Nat) : Int) := by
  rw [Int.tmod_eq_emod_of_nonneg (by omega)]
  exact ⟨(Int.natCast_emod x n).symm, (Int.natCast_emod x n).symm⟩
theorem or1_val (x : Nat) (h : x < 4294967296) : bits .or .u32 (x : Int) 1 = ((x ||| 1 : Nat) : Int) := u32_or_nat x 1 h (by decide)

set_option maxHeartbeats 1000000 in
set_option maxRecDepth 100000 in
theorem blPlaces_ok (H N S : Nat) (P M : Int) (hc : chkR H P M = 0) (h1 : 1 ≤ N) (h2 : N ≤ 4294967295) (hS : S < 4294967296) (p : ByteArray) (hp : p.size ≤ maxLen) (w : World) :
    Calls Try.prog 13 #[.agg #[.int .i64 H, .int .i64 P, .int .i64 M, .int .u32 S], .string p, .int .i64 N] w (PlSaid (pl H S N p) w) := by
  obtain ⟨i0, hi, hz0, hz1, hz2⟩ := info_parts infoInt
  have hH := (chk_zero hc).2.1
  have HC := Lib.hid (fun W => blCheck H P M S W)
  rw [hc] at HC
  have hx1 : ¬ ((N : Int) < 1) := by omega
  have hx2 : ¬ ((4294967295 : Int) < N) := by omega
  have d1 : decide ((N : Int) < 1) = false := by simpa using hx1
  have d2 : decide ((4294967295 : Int) < (N : Int)) = false := by simpa using hx2
  have hN : IntKind.u32.wrap (N : Int) = (N : Int) := IntWalk.u32_in _ (by omega)
  have hS1 : IntKind.u32.wrap ((S : Int) + 1) = (((S + 1) % 4294967296 : Nat) : Int) := (step_val S 1).1
  have hS1' : ((S : Int) + 1) % 4294967296 = (((S + 1) % 4294967296 : Nat) : Int) := (step_val S 1).2
  have hsl : (S + 1) % 4294967296 < 4294967296 := Nat.mod_lt _ (by decide)
  have HA := Lib.hid (fun W => blHash S hS p hp W)
  have HB := Lib.hid (fun W => blHash ((S + 1) % 4294967296) hsl p hp W)
  have hal := hashR_lt S p.data.toList
  have hbl := hashR_lt ((S + 1) % 4294967296) p.data.toList
  have HPL := Lib.hid (show pl H S N p = placesL H (hashR S p.data.toList) (hashR ((S + 1) % 4294967296) p.data.toList ||| 1) N from rfl)
  have hor := or1_val _ hbl
  have hol : hashR ((S + 1) % 4294967296) p.data.toList ||| 1 < 4294967296 := Nat.or_lt_two_pow (n := 32) hbl (by decide)
  generalize hashR S p.data.toList = a at *
  generalize hashR ((S + 1) % 4294967296) p.data.toList = b0 at *
  generalize b0 ||| 1 = b at *
  generalize (S + 1) % 4294967296 = S1 at *
  clear hc
  go_enter Try.func13, Try.ntmps13
  have HBX := Lib.hid (bl_alloc (Below.refl _ w) (.cells #[.int .i64 H, .int .i64 P, .int .i64 M, .int .u32 S] 27))
  have HC0 := Lib.hid (show ∀ i x, #[Value.int .i64 H, .int .i64 P, .int .i64 M, .int .u32 S][i]? = some x → (w.alloc (.cells #[.int .i64 H, .int .i64 P, .int .i64 M, .int .u32 S] 27)).cell? ⟨w.heap.size, i, none⟩ = some x from fun i x hx => by rw [World.cell?_alloc_mark]; exact hx)
  go_wp2_with (go_at_call 11; (with_reducible refine (HC.out _).mono ?_); rintro r w1 ⟨rfl, hb⟩; have HB1 := Lib.hid (HBX.out.trans (hb.mono HBX.out.size)); have c0 := bl_cell hb (HC0.out 0 _ rfl); have c3 := Lib.hid (bl_cell hb (HC0.out 3 _ rfl)); clear hb)
  go_region_held3 (fun w' => w'.cell? ⟨w.heap.size, 3, none⟩ = some (.int .u32 S))
    (first | exact y4.out | exact y3.out | exact c3.out)
    (first
      | (go_at_call 9; (with_reducible refine (HA.out _).mono ?_); rintro r w3 ⟨rfl, hb⟩; have HW3 := Lib.hid (HW2.out.trans (hb.mono HW2.out.size)); have y4 := Lib.hid (bl_cell HW3.out c3.out); clear hb)
      | (go_at_call 9; (with_reducible refine (HB.out _).mono ?_); rintro r w3 ⟨rfl, hb⟩; have HW3 := Lib.hid (HW2.out.trans (hb.mono HW2.out.size)); have y4 := Lib.hid (bl_cell HW3.out c3.out); clear hb)
      | (go_at_call 9; (with_reducible refine (HA.out _).mono ?_); rintro r w2 ⟨rfl, hb⟩; have hb1 := (Below.drew (Below.refl _ w1)).trans hb; have HW2 := Lib.hid hb1; have y3 := Lib.hid (bl_cell hb1 c3.out); clear hb hb1)
      | (go_at_call 9; (with_reducible refine (HB.out _).mono ?_); rintro r w2 ⟨rfl, hb⟩; have hb1 := (Below.drew (Below.refl _ w1)).trans hb; have HW2 := Lib.hid hb1; have y3 := Lib.hid (bl_cell hb1 c3.out); clear hb hb1))
  all_goals
    have z0 := bl_cell HW3.out c0
    have HW := Lib.hid (HB1.out.trans (HW3.out.mono HB1.out.size))
    clear c0
    go_wp2
    go_loopw [7, 9, 33] (fun at_ lv i wr => ∃ (k : Nat) (v : Value), k ≤ H ∧ at_ = .int .u32 (((a + k * b) % 4294967296 : Nat) : Int) ∧ lv = v ∧ i = .int .i64 k ∧ wr.ownsRow w.heap.size 3 1 v k (natsV ((placesL H a b N).take k)) ∧ Below w.heap.size w wr) (fun _ _ i _ => H - (intOf i).toNat)
    case atStart => exact ⟨0, _, Nat.zero_le _, by rw [Nat.zero_mul, Nat.add_zero, Nat.mod_eq_of_lt hal], rfl, rfl, World.ownsRow_nil _ _ _ _, HW.out⟩
    case round =>
      obtain ⟨k, v, hk, rfl, rfl, rfl, hown, hbb⟩ := hrel
      have HO := Lib.hid hown; have HBB := Lib.hid hbb
      have hsz := hbb.size
      clear hown hbb
      by_cases hlt : k < H
      · have hd : decide ((k : Int) < (H : Int)) = true := by simp; omega
        have HT := Lib.hid (placesL_take H a b N k hlt)
        have HST := Lib.hid (step_place a b k)
        have hxl : (a + k * b) % 4294967296 < 4294967296 := Nat.mod_lt _ (by decide)
        have HPA := Lib.hid (show placeAt a b N k = (a + k * b) % 4294967296 % N from rfl)
        generalize (a + k * b) % 4294967296 = x at *
        obtain ⟨r1, r2⟩ := rem_val x N
        obtain ⟨s1, s2⟩ := step_val x b
        rw [HST.out] at s1 s2
        have hrl : x % N < 4294967296 := by have := Nat.mod_lt x (show 0 < N from h1); omega
        generalize x % N = y at *
        have hyw : IntKind.i64.wrap (y : Int) = (y : Int) := IntWalk.i64_in _ (by omega)
        generalize hX2 : (a + (k + 1) * b) % 4294967296 = x2 at *
        have HX2 := Lib.hid hX2
        clear hX2
        have HTE : Hid ((placesL H a b N).take (k + 1) = (placesL H a b N).take k ++ [y]) := Lib.hid (by rw [HT.out, HPA.out])
        go_wp2_with (refine wpList_append_lies _ rfl (.tmp 35) (.tmp 41) 30 rfl w.heap.size 3 i0 (.int .i64 0) 1 8 Try.underlying30 hi hz0 hz1 hz2 rfl (by decide) _ k _ rfl (HO.out.alloc _) ⟨wr.heap.size, 0, none⟩ 1 1 [.int .i64 (y : Int)] rfl rfl (cells_one _ _ _) (by intro u hu; rw [List.mem_singleton.1 hu]; rfl) (by decide) (by unfold maxLen; omega) (by omega) (by simp; omega) (wr.heap.size + 1) (by simp) ?_; intro g cap w4 hown hg hat hlt2; have HB4 := Lib.hid (HBB.out.trans (below_ownE HO.out hg hsz)); have HO4 := Lib.hid hown; clear hown hg hat hlt2)
        go_roundw
        case rel => exact ⟨k + 1, _, by omega, by rw [HX2.out], rfl, by go_num, by rw [HTE.out, natsV_append]; exact HO4.out, HB4.out⟩
        case measure => simp [intOf]; omega
      · have hd : decide ((k : Int) < (H : Int)) = false := by simp; omega
        obtain rfl : k = H := by omega
        go_wp2
        go_ret
        have hle : (placesL k a b N).take k = placesL k a b N := List.take_of_length_le (by rw [placesL_length]; exact Nat.le_refl _)
        have ho := HO.out
        rw [hle] at ho
        exact ⟨_, rfl, by rw [HPL.out, placesL_length]; exact ho, HBB.out⟩

theorem mulb_val (k b : Nat) : IntKind.u32.wrap ((k : Int) * (b : Int)) = ((k * b % 4294967296 : Nat) : Int) ∧ (k : Int) * (b : Int) % 4294967296 = ((k * b % 4294967296 : Nat) : Int) := by
  rw [IntKind.wrap_u32, ← Int.natCast_mul]
  exact ⟨by omega, by omega⟩
theorem own_base {B B2 e k n : Nat} {w : World} {v : Value} {xs : List Value} (h : w.ownsRow B e k v n xs) (hle : B2 ≤ B) : w.ownsRow B2 e k v n xs :=
  ⟨h.1, h.2.imp id fun ⟨g, cap, cur, hv, hb, r⟩ => ⟨g, cap, cur, hv, Nat.le_trans hle hb, r⟩⟩

set_option maxHeartbeats 1000000 in
set_option maxRecDepth 100000 in
theorem xPlaces_ok (H N S : Nat) (P M : Int) (hc : chkR H P M = 0) (h1 : 1 ≤ N) (h2 : N ≤ 4294967295) (hS : S < 4294967296) (p : ByteArray) (hp : p.size ≤ maxLen) (w : World) :
    Calls Try.prog 14 #[.agg #[.int .i64 H, .int .i64 P, .int .i64 M, .int .u32 S], .string p, .int .i64 N] w (PlSaid (pl H S N p) w) := by
  obtain ⟨i0, hi, hz0, hz1, hz2⟩ := info_parts infoInt
  have hH := (chk_zero hc).2.1
  have HC := Lib.hid (fun W => xCheck H P M S W)
  rw [hc] at HC
  have hx1 : ¬ ((N : Int) < 1) := by omega
  have hx2 : ¬ ((4294967295 : Int) < N) := by omega
  have d1 : decide ((N : Int) < 1) = false := by simpa using hx1
  have d2 : decide ((4294967295 : Int) < (N : Int)) = false := by simpa using hx2
  have hN : IntKind.u32.wrap (N : Int) = (N : Int) := IntWalk.u32_in _ (by omega)
  have hS1 : IntKind.u32.wrap ((S : Int) + 1) = (((S + 1) % 4294967296 : Nat) : Int) := (step_val S 1).1
  have hS1' : ((S : Int) + 1) % 4294967296 = (((S + 1) % 4294967296 : Nat) : Int) := (step_val S 1).2
  have hsl : (S + 1) % 4294967296 < 4294967296 := Nat.mod_lt _ (by decide)
  have HA := Lib.hid (fun W => xHash S hS p hp W)
  have HB := Lib.hid (fun W => xHash ((S + 1) % 4294967296) hsl p hp W)
  have hal := hashR_lt S p.data.toList
  have hbl := hashR_lt ((S + 1) % 4294967296) p.data.toList
  have HPL := Lib.hid (show pl H S N p = placesL H (hashR S p.data.toList) (hashR ((S + 1) % 4294967296) p.data.toList ||| 1) N from rfl)
  have hor := or1_val _ hbl
  have hol : hashR ((S + 1) % 4294967296) p.data.toList ||| 1 < 4294967296 := Nat.or_lt_two_pow (n := 32) hbl (by decide)
  generalize hashR S p.data.toList = a at *
  generalize hashR ((S + 1) % 4294967296) p.data.toList = b0 at *
  generalize b0 ||| 1 = b at *
  generalize (S + 1) % 4294967296 = S1 at *
  clear hc
  go_enter Try.func14, Try.ntmps14
  have HBX := Lib.hid (bl_alloc (Below.refl _ w) (.cells #[.int .i64 H, .int .i64 P, .int .i64 M, .int .u32 S] 27))
  have HC0 := Lib.hid (show ∀ i x, #[Value.int .i64 H, .int .i64 P, .int .i64 M, .int .u32 S][i]? = some x → (w.alloc (.cells #[.int .i64 H, .int .i64 P, .int .i64 M, .int .u32 S] 27)).cell? ⟨w.heap.size, i, none⟩ = some x from fun i x hx => by rw [World.cell?_alloc_mark]; exact hx)
  go_wp2_with (first
    | (go_at_call 12; (with_reducible refine (HC.out _).mono ?_); rintro r w1 ⟨rfl, hb⟩; have HB1 := Lib.hid (HBX.out.trans (hb.mono HBX.out.size)); have c0 := bl_cell hb (HC0.out 0 _ rfl); have c3 := bl_cell hb (HC0.out 3 _ rfl); have HC1 := Lib.hid c0; clear hb)
    | (go_at_call 10; (with_reducible refine (HA.out _).mono ?_); rintro r w2 ⟨rfl, rfl⟩)
    | (go_at_call 10; (with_reducible refine (HB.out _).mono ?_); rintro r w2 ⟨rfl, rfl⟩))
  go_loopw [7, 10] (fun lv i wr => ∃ (k : Nat) (v : Value), k ≤ H ∧ lv = v ∧ i = .int .i64 k ∧ wr.ownsRow w1.heap.size 3 1 v k (natsV ((placesL H a b N).take k)) ∧ Below w1.heap.size w1 wr) (fun _ i _ => H - (intOf i).toNat)
  case atStart => exact ⟨0, _, Nat.zero_le _, rfl, rfl, World.ownsRow_nil _ _ _ _, Below.refl _ _⟩
  case round =>
    obtain ⟨k, v, hk, rfl, rfl, hown, hbb⟩ := hrel
    have hcr := bl_cell hbb HC1.out
    have HO := Lib.hid hown; have HBB := Lib.hid hbb
    have hsz := hbb.size
    clear hown hbb
    by_cases hlt : k < H
    · have hd : decide ((k : Int) < (H : Int)) = true := by simp; omega
      have HT := Lib.hid (placesL_take H a b N k hlt)
      have hRP := ref_place a b k
      have hkw : IntKind.u32.wrap (k : Int) = (k : Int) := IntWalk.u32_in _ (by omega)
      obtain ⟨m1, m2⟩ := mulb_val k b
      have hml : k * b % 4294967296 < 4294967296 := Nat.mod_lt _ (by decide)
      generalize k * b % 4294967296 = kb at *
      obtain ⟨s1, s2⟩ := step_val a kb
      rw [hRP] at s1 s2
      clear hRP
      have hxl : (a + k * b) % 4294967296 < 4294967296 := Nat.mod_lt _ (by decide)
      have HPA := Lib.hid (show placeAt a b N k = (a + k * b) % 4294967296 % N from rfl)
      generalize (a + k * b) % 4294967296 = x at *
      obtain ⟨r1, r2⟩ := rem_val x N
      have hrl : x % N < 4294967296 := by have := Nat.mod_lt x (show 0 < N from h1); omega
      generalize x % N = y at *
      have hyw : IntKind.i64.wrap (y : Int) = (y : Int) := IntWalk.i64_in _ (by omega)
      have HTE : Hid ((placesL H a b N).take (k + 1) = (placesL H a b N).take k ++ [y]) := Lib.hid (by rw [HT.out, HPA.out])
      go_wp2_with (refine wpList_append_lies _ rfl (.tmp 39) (.tmp 50) 30 rfl w1.heap.size 3 i0 (.int .i64 0) 1 8 Try.underlying30 hi hz0 hz1 hz2 rfl (by decide) _ k _ rfl (HO.out.alloc _) ⟨wr.heap.size, 0, none⟩ 1 1 [.int .i64 (y : Int)] rfl rfl (cells_one _ _ _) (by intro u hu; rw [List.mem_singleton.1 hu]; rfl) (by decide) (by unfold maxLen; omega) (by omega) (by simp; omega) (wr.heap.size + 1) (by simp) ?_; intro g cap w4 hown hg hat hlt2; have HB4 := Lib.hid (HBB.out.trans (below_ownE HO.out hg hsz)); have HO4 := Lib.hid hown; clear hown hg hat hlt2)
      go_roundw
      case rel => exact ⟨k + 1, _, by omega, rfl, by go_num, by rw [HTE.out, natsV_append]; exact HO4.out, HB4.out⟩
      case measure => simp [intOf]; omega
    · have hd : decide ((k : Int) < (H : Int)) = false := by simp; omega
      obtain rfl : k = H := by omega
      go_wp2
      go_ret
      have hle : (placesL k a b N).take k = placesL k a b N := List.take_of_length_le (by rw [placesL_length]; exact Nat.le_refl _)
      have ho := HO.out
      rw [hle] at ho
      exact ⟨_, rfl, by rw [HPL.out, placesL_length]; exact own_base ho HB1.out.size, HB1.out.trans (HBB.out.mono HB1.out.size)⟩
end Go.Proofs.Ytplegohebfajlaa
