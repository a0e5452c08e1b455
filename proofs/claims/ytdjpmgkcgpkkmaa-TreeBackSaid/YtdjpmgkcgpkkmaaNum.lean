/- Walk of layer 2: the document's numbers of some bytes. -/
import Derived.Test.YtdjpmgkcgpkkmaaPackW2
import Derived.Laws.OwnMore
import Derived.OwnWalk
set_option linter.unusedVariables false
set_option linter.unusedSimpArgs false
namespace Go.Proofs.Ytdjpmgkcgpkkmaa
open Go.RowKit PackMath

theorem be_get (x n m : Nat) (h : m < n) : (be x n)[m]? = some (byteAt x (n - 1 - m)) := by
  induction n generalizing m with
  | zero => omega
  | succ n ih =>
    match m with
    | 0 => simp [be]
    | m + 1 =>
      simp only [be, List.getElem?_cons_succ]
      rw [ih m (by omega), show n - 1 - m = n + 1 - 1 - (m + 1) from by omega]
theorem be_take (x n m : Nat) (h : m < n) : (be x n).take (m + 1) = (be x n).take m ++ [byteAt x (n - 1 - m)] := by
  rw [List.take_add_one, be_get x n m h]; rfl
theorem row_set (x n m : Nat) (h : m < n) : (bytesOf ((be x n).take m) ++ List.replicate (n - m) (Value.int .u8 0)).set m (.int .u8 ((byteAt x (n - 1 - m)).toNat : Nat)) =
    bytesOf ((be x n).take (m + 1)) ++ List.replicate (n - (m + 1)) (Value.int .u8 0) := by
  have hl : (bytesOf ((be x n).take m)).length = m := by rw [bytesOf_length, List.length_take, be_length]; omega
  rw [List.set_append_right _ _ (by omega), hl, Nat.sub_self, be_take x n m h, bytesOf_append, show n - m = (n - (m + 1)) + 1 from by omega, List.replicate_succ, List.set_cons_zero, List.append_assoc]
  rfl
theorem row_get (x n m : Nat) (h : m < n) : (bytesOf ((be x n).take m) ++ List.replicate (n - m) (Value.int .u8 0))[m]? = some (.int .u8 0) := by
  have hl : (bytesOf ((be x n).take m)).length = m := by rw [bytesOf_length, List.length_take, be_length]; omega
  rw [List.getElem?_append_right (by omega), hl, Nat.sub_self, show n - m = (n - (m + 1)) + 1 from by omega, List.replicate_succ]
  rfl
theorem below_of_grown {w w' : World} {row : Option Nat} (h : w.grownBy w' row) (hr : ∀ g, row = some g → w.heap.size ≤ g) : Below w.heap.size w w' :=
  ⟨h.os, h.tape, h.output, h.size, fun k hk => h.block k hk (fun e => by have := hr k e.symm; omega)⟩

theorem byte_val2 (x m : Nat) : (((byteAt x m).toNat : Nat) : Int) = (x : Int) / 2 ^ (8 * m) % 256 := by
  rw [byteAt_toNat]
  have e : (2 : Int) ^ (8 * m) = ((256 ^ m : Nat) : Int) := by
    rw [Int.natCast_pow, Int.pow_mul]; rfl
  rw [e]
  omega

set_option maxHeartbeats 800000 in
set_option maxRecDepth 100000 in
theorem refNumber_any (k n : Nat) (hk : k < 18446744073709551616) (hn : n ≤ 8) (w : World) :
    Calls Try.prog 48 #[.int .u64 k, .int .i64 n] w fun e w' => e = .returned (.string ⟨(be k n).toArray⟩) ∧ Below w.heap.size w w' := by
  obtain ⟨i0, hi, hz0, hz1, hz2⟩ := info_parts infoU8
  have hmax : n ≤ maxLen := by unfold maxLen; omega
  go_enter Try.func48, Try.ntmps48
  go_wp2_with (refine wpList_make_full _ rfl (.tmp 7) (.tmp 7) 80 rfl w.heap.size 5 i0 (.int .u8 0) 1 Try.underlying80 hi hz0 hz1 .i64 .i64 n n n rfl rfl rfl rfl (by rw [hz2]; omega) hmax (Nat.le_refl _) ?_; intro w1 hown hg)
  have hr0 : (madeCells (Value.int .u8 0).cells (n * 1)).toList = bytesOf ((be k n).take 0) ++ List.replicate (n - 0) (Value.int .u8 0) := by
    rw [Nat.mul_one]
    exact toList_madeCells_one _ n
  rw [hr0] at hown
  have HO := Lib.hid hown
  have HB := Lib.hid (below_of_grown hg (fun g h => by cases h))
  clear hown hg hr0
  go_wp2
  go_loopw [6] (fun i wr => ∃ m : Nat, m ≤ n ∧ i = .int .i64 m ∧ wr.ownsRow w.heap.size 5 1 (.slice (some ⟨w.heap.size, 0, none⟩) n n) n (bytesOf ((be k n).take m) ++ List.replicate (n - m) (.int .u8 0)) ∧ Below w.heap.size w wr) (fun i _ => n - (intOf i).toNat)
  case atStart => exact ⟨0, Nat.zero_le _, rfl, HO.out, HB.out⟩
  case round =>
    obtain ⟨m, hm, rfl, hown, hbb⟩ := hrel
    have HOm := Lib.hid hown
    have HBm := Lib.hid hbb
    clear hown hbb
    by_cases hlt : m < n
    · have hcell : wr.cell? ⟨w.heap.size, m, none⟩ = some (.int .u8 0) := by rw [HOm.out.cellAt m (by omega)]; exact row_get k n m hlt
      have hfr : wr.frozen? ⟨w.heap.size, m, none⟩ = false := HOm.out.frozenAt m
      have HW := Lib.hid (HOm.out.stored m (.int .u8 ((byteAt k (n - 1 - m)).toNat : Nat)))
      rw [row_set k n m hlt] at HW
      obtain ⟨j, hj⟩ : ∃ j, n - 1 - m = j := ⟨_, rfl⟩
      have h2 : (n : Int) - 1 - (m : Int) = (j : Int) := by omega
      have hj8 : j < 8 := by omega
      have h3 : IntKind.i64.wrap (8 * (j : Int)) = 8 * (j : Int) := IntWalk.i64_in _ (by omega)
      rw [hj, byte_val2] at HW
      clear hj
      go_wp2
      go_roundw
      case rel => exact ⟨m + 1, by omega, by go_num, HW.out.1, HBm.out.setCell (Nat.le_refl _) _⟩
      case measure => simp [intOf]; omega
    · obtain rfl : m = n := by omega
      have hl : (be k m).length = m := be_length k m
      have hrow : wr.ownsRow w.heap.size 5 1 (.slice (some ⟨w.heap.size, 0, none⟩) m m) (be k m).length (bytesOf (be k m)) := by
        have := HOm.out
        rw [List.take_of_length_le (by omega), Nat.sub_self] at this
        rw [hl]
        simpa using this
      have hrun := run_own_string w.heap.size wr _ (be k m) hrow
      clear hrow
      go_wp2
      go_ret
      exact ⟨rfl, HBm.out⟩

theorem refNumber_at (x : Int) (k : Nat) (hx : x = k) (y : Int) (n : Nat) (hy : y = n) (hk : k < 18446744073709551616) (hn : n ≤ 8) (w : World) :
    Calls Try.prog 48 #[.int .u64 x, .int .i64 y] w fun e w' => e = .returned (.string ⟨(be k n).toArray⟩) ∧ Below w.heap.size w w' := by
  subst hx; subst hy
  exact refNumber_any k n hk hn w
end Go.Proofs.Ytdjpmgkcgpkkmaa
