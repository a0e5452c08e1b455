/- Walk of layer 13: what a filter says of a path, in the program. -/
import Derived.Test.YtplegohebfajlaaBlW5
set_option linter.unusedVariables false
set_option linter.unusedSimpArgs false
namespace Go.Proofs.Ytplegohebfajlaa
open Go.RowKit BlMath Go.Maps

/-- Is a bit set? -/
def bitAt (b : ByteArray) (y : Nat) : Bool := (b.data.toList.getD (y / 8) 0).toNat / 2 ^ (y % 8) % 2 == 1
def mayR (H P M : Int) (S : Nat) (st : Int) (b : ByteArray) (p : ByteArray) : Bool := if st ≠ 1 then true else (plR H P M S (8 * b.size) p).all (bitAt b)
theorem may_other {H P M st : Int} {S : Nat} {b p : ByteArray} (h : st ≠ 1) : mayR H P M S st b p = true := by unfold mayR; rw [if_pos h]
theorem may_small {H P M : Int} {S : Nat} {b p : ByteArray} : mayR H P M S 1 b p = (plR H P M S (8 * b.size) p).all (bitAt b) := by unfold mayR; rw [if_neg (by simp)]
theorem plR_lt {H P M : Int} {S n : Nat} {p : ByteArray} : ∀ y ∈ plR H P M S n p, y < n := by
  intro y hy
  unfold plR at hy
  split at hy
  · rename_i h
    have := pl_lt (show 0 < (n : Int).toNat by omega) p y hy
    simpa using this
  · simp at hy
theorem plR_len {H P M : Int} {S : Nat} {n : Int} {p : ByteArray} : (plR H P M S n p).length ≤ 16 := by
  unfold plR
  split
  · rename_i h
    have := chk_zero h.1
    rw [pl_length]; omega
  · simp
theorem own_slice {B e n : Nat} {w : World} {v : Value} {xs : List Value} (h : w.ownsRow B e 1 v n xs) : ∃ ga c, v = .slice ga n c ∧ (0 < n → ∃ g, ga = some ⟨g, 0, none⟩) := by
  rcases h.2 with ⟨rfl, h0⟩ | ⟨g, cap, cur, rfl, _⟩
  · exact ⟨none, 0, by rw [h0], fun h => by omega⟩
  · exact ⟨_, cap, rfl, fun _ => ⟨g, rfl⟩⟩
theorem shr_val (b r : Nat) : (b : Int) / 2 ^ r = ((b / 2 ^ r : Nat) : Int) := by
  rw [Int.natCast_ediv, Int.natCast_pow]; rfl
theorem and1_val (x : Nat) (h : x < 256) : bits .and .u8 (x : Int) 1 = ((x % 2 : Nat) : Int) := by
  rw [show (1 : Int) = ((1 : Nat) : Int) from rfl, u8_and_nat x 1 h (by decide), Nat.and_one_is_mod]

set_option maxHeartbeats 1000000 in
set_option maxRecDepth 100000 in
theorem blMay_other (H P M st : Int) (S : Int) (b p : ByteArray) (h : st ≠ 1) (w : World) :
    Calls Try.prog 18 #[.agg #[.int .i64 H, .int .i64 P, .int .i64 M, .int .u32 S], .agg #[.int .i64 st, .string b], .string p] w fun e w' => e = .returned (.bool true) ∧ Below w.heap.size w w' := by
  have hd : ((st : Int) != 1) = true := by simpa using h
  have HB := Lib.hid (bl_alloc (bl_alloc (Below.refl _ w) (.cells #[.int .i64 H, .int .i64 P, .int .i64 M, .int .u32 S] 27)) (.cells #[.int .i64 st, .string b] 36))
  clear h
  go_enter Try.func18, Try.ntmps18
  go_wp2
  go_ret
  exact ⟨rfl, HB.out⟩

set_option maxHeartbeats 1000000 in
set_option maxRecDepth 100000 in
theorem blMay_small (H P M : Int) (S : Nat) (hS : S < 4294967296) (b p : ByteArray) (hb : b.size ≤ 1000000) (hp : p.size ≤ maxLen) (w : World) :
    Calls Try.prog 18 #[.agg #[.int .i64 H, .int .i64 P, .int .i64 M, .int .u32 S], .agg #[.int .i64 1, .string b], .string p] w fun e w' => e = .returned (.bool ((plR H P M S (8 * b.size) p).all (bitAt b))) ∧ Below w.heap.size w w' := by
  have HP := Lib.hid (fun W => blPlaces H P M (8 * (b.size : Int)) S hS p hp W)
  have hl := plR_len (H := H) (P := P) (M := M) (S := S) (n := 8 * (b.size : Int)) (p := p)
  have hlt : ∀ y ∈ plR H P M S (8 * (b.size : Int)) p, y < 8 * b.size := fun y hy => plR_lt (n := 8 * b.size) y (by rw [show ((8 * b.size : Nat) : Int) = 8 * (b.size : Int) from by omega]; exact hy)
  have HLT := Lib.hid hlt
  clear hlt
  generalize plR H P M S (8 * (b.size : Int)) p = l at *
  have hx := heap_alloc2_old w (.cells #[.int .i64 H, .int .i64 P, .int .i64 M, .int .u32 S] 27) (.cells #[.int .i64 1, .string b] 36)
  have hy := heap_alloc2_new w (.cells #[.int .i64 H, .int .i64 P, .int .i64 M, .int .u32 S] 27) (.cells #[.int .i64 1, .string b] 36)
  have HB := Lib.hid (bl_alloc (bl_alloc (Below.refl _ w) (.cells #[.int .i64 H, .int .i64 P, .int .i64 M, .int .u32 S] 27)) (.cells #[.int .i64 1, .string b] 36))
  have HC1 := Lib.hid (show ((w.alloc (.cells #[.int .i64 H, .int .i64 P, .int .i64 M, .int .u32 S] 27)).alloc (.cells #[.int .i64 1, .string b] 36)).cell? ⟨w.heap.size + 1, 1, none⟩ = some (.string b) from by rw [cell_of_row _ _ _ _ _ _ hy]; rfl)
  clear hx hy
  have hn8 : IntKind.i64.wrap (8 * (b.size : Int)) = 8 * (b.size : Int) := IntWalk.i64_in _ (by omega)
  go_enter Try.func18, Try.ntmps18
  go_wp2_with (go_at_call 13; (with_reducible refine (HP.out _).mono ?_); rintro r w1 ⟨v, rfl, hown, hb1⟩; obtain ⟨ga, gc, rfl, hga⟩ := own_slice hown; have HV := Lib.hid hown; have HGA := Lib.hid hga; have HB1 := Lib.hid (HB.out.trans (hb1.mono HB.out.size)); have HC2 := Lib.hid (bl_cell hb1 HC1.out); clear hown hb1 hga)
  go_loopw [20] (fun i wr => ∃ j : Nat, j ≤ l.length ∧ i = .int .i64 j ∧ (l.take j).all (bitAt b) = true ∧ wr = w1) (fun i _ => l.length - (intOf i).toNat)
  case atStart => exact ⟨0, Nat.zero_le _, rfl, rfl, rfl⟩
  case round =>
    obtain ⟨j, hj, rfl, hall, rfl⟩ := hrel
    have HALL := Lib.hid hall
    have hcb := HC2.out
    clear hall
    by_cases hlt2 : j < l.length
    · obtain ⟨g, rfl⟩ := HGA.out (by omega)
      have hy := HLT.out _ (List.getElem_mem hlt2)
      have hcy := HV.out.cellAt j (by omega)
      rw [show (natsV l)[j]? = some (.int .i64 (l[j] : Nat)) from by simp [natsV, hlt2]] at hcy
      have HT := Lib.hid (List.take_succ_eq_append_getElem hlt2)
      have HMEM := Lib.hid (List.getElem_mem hlt2)
      generalize l[j] = y at *
      have hq8 : y / 8 < b.size := by omega
      have hr8 : y % 8 < 8 := by omega
      have hdv : (y : Int) / 8 = ((y / 8 : Nat) : Int) := by omega
      have hmd : (y : Int) % 8 = ((y % 8 : Nat) : Int) := by omega
      have HBIT := Lib.hid (show bitAt b y = (b[y / 8].toNat / 2 ^ (y % 8) % 2 == 1) from by unfold bitAt; rw [List.getD_eq_getElem?_getD, List.getElem?_eq_getElem (by simpa using hq8)]; rfl)
      have hbl := b[y / 8].toNat_lt
      generalize y / 8 = q at *
      generalize y % 8 = r at *
      generalize hbq : b[q] = bq at *
      have HBQ := Lib.hid hbq
      have hs1 := shr_val bq.toNat r
      have hsl : bq.toNat / 2 ^ r < 256 := Nat.lt_of_le_of_lt (Nat.div_le_self _ _) hbl
      generalize bq.toNat / 2 ^ r = sv at *
      have ha1 := and1_val sv hsl
      have hq0 : (q : Int) < b.size := by omega
      by_cases hbit : sv % 2 = 0
      · have hdz : ((sv : Int) % 2 == 0) = true := by simp; omega
        have HNO := Lib.hid (show l.all (bitAt b) = false from by
          rw [List.all_eq_false]
          exact ⟨y, HMEM.out, by rw [HBIT.out]; simp; omega⟩)
        go_wp2
        go_ret
        exact ⟨by rw [HNO.out]; rfl, HB1.out⟩
      · have hdz : ((sv : Int) % 2 == 0) = false := by simp; omega
        have HYES := Lib.hid (show bitAt b y = true from by rw [HBIT.out]; simp; omega)
        go_wp2
        go_roundw
        case rel => exact ⟨j + 1, by omega, by go_num, by rw [HT.out, List.all_append, HALL.out]; simp [HYES.out], True.intro⟩
        case measure => simp [intOf]; omega
    · obtain rfl : j = l.length := by omega
      have HYES := Lib.hid (show l.all (bitAt b) = true from by have := HALL.out; rwa [List.take_length] at this)
      go_wp2
      go_ret
      exact ⟨by rw [HYES.out]; rfl, HB1.out⟩
theorem blMay (H P M : Int) (S : Nat) (hS : S < 4294967296) (st : Int) (b p : ByteArray) (hb : b.size ≤ 1000000) (hp : p.size ≤ maxLen) (w : World) :
    Calls Try.prog 18 #[.agg #[.int .i64 H, .int .i64 P, .int .i64 M, .int .u32 S], .agg #[.int .i64 st, .string b], .string p] w fun e w' => e = .returned (.bool (mayR H P M S st b p)) ∧ Below w.heap.size w w' := by
  by_cases h : st = 1
  · subst h
    rw [may_small]
    exact blMay_small H P M S hS b p hb hp w
  · rw [may_other h]
    exact blMay_other H P M st S b p h w
end Go.Proofs.Ytplegohebfajlaa
