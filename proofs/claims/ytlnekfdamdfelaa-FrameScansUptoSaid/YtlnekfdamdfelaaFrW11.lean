/- Walk of layer 7: Each, the giver of frames one by one. -/
import Derived.RangeFuncNested
import Derived.RangeFuncBound
import Derived.RangeFuncCalls
import Derived.RangeFuncLeaves
import Derived.Shelf.Abstract
import Derived.Shelf.RegionOpen
import Derived.WalkKit
import Derived.OwnWalkIn
import Derived.TacticsInMore
import Derived.LoopNIn
import Derived.LoopIn
import Derived.Test.YtlnekfdamdfelaaFrMath7
import Derived.Test.YtlnekfdamdfelaaFrW10
set_option linter.unusedVariables false
set_option linter.unusedSimpArgs false
namespace Go.Proofs.Ytlnekfdamdfelaa
open Go.RowKit Go.Shelf PackMath SumMath FrMath
attribute [local go_sem] Oper.semAt_some

/-- What a frame is handed on as, with its place. -/
def encE (l : List (Int × ByteArray)) (j : Nat) : Array Value := #[.int .i64 (posF l j : Nat), .agg #[.int .i64 (frAt l j).1, .string (frAt l j).2]]
theorem grown_below {w w' : World} (h : Below w.heap.size w w') : w.grownBy w' none := ⟨h.os, h.tape, h.output, h.size, fun i hi _ => h.block i hi⟩

/-- frame.Each: the text is boxed; the function value captures the box. -/
theorem fEach (s : ByteArray) (w : World) : Calls Try.prog 34 #[.string s] w fun e w' => e = .returned (.func (.func 43) #[] #[.pointer (some ⟨w.heap.size, 0, none⟩)]) ∧ w' = w.alloc (.cells #[.string s] 9) := by
  go_enter Try.func34, Try.ntmps34
  go_wp2
  go_ret
  exact ⟨rfl, rfl⟩

set_option maxRecDepth 100000 in
set_option maxHeartbeats 1000000 in
theorem fEach1 (s : ByteArray) (hs : s.size ≤ 1099511627776) (n : Nat) (hn : 1 ≤ n) (l Bn n₀ : Nat) (J Jx : List Nat → World → Prop) (hBl : Bn < n₀)
    (W : World) (hn₀ : n₀ ≤ W.heap.size) (hJ : AbidesFrom W.heap.size J)
    (hY : ∀ pre x W, J pre W → pre.length < (scanR s).1.length → YieldAt Fence.wide (n - 1) Try.prog l (encE (scanR s).1 x) W fun e W' =>
      (e = .returned (.bool true) ∧ J (pre ++ [x]) W' ∧ Below n₀ W W') ∨ (e = .returned (.bool false) ∧ Jx (pre ++ [x]) W'))
    (hBn : W.cell? ⟨Bn, 0, none⟩ = some (.string s)) (h0 : J [] W) :
    CallsIn Fence.wide n Try.prog 43 #[.func (.yield l) #[] #[], .pointer (some ⟨Bn, 0, none⟩)] W fun e W' => (∃ v, e = .returned v) ∧
      ((∃ ys, ys = List.range (scanR s).1.length ∧ J ys W') ∨ (∃ pre, (∃ k, pre = List.range k) ∧ Jx pre W')) := by
  refine callsIn_of_wp Try.func43 rfl trivial ?_ rfl
  simp only [Try.ntmps43, List.size_toArray, List.length_cons, List.length_nil, Nat.reduceAdd, Nat.reduceSub, Array.replicate_succ, Array.replicate_zero, List.push_toArray, List.append_toArray, List.nil_append, List.cons_append]
  gi_wp2
  gi_loopw [3] (fun p wr => ∃ k : Nat, k ≤ (scanR s).1.length ∧ p = .int .i64 (posF (scanR s).1 k : Nat) ∧ J (List.range k) wr ∧ Below n₀ W wr)
    (fun p _ => s.size - (intOf p).toNat)
  case atStart => exact ⟨0, Nat.zero_le _, rfl, h0, Below.refl _ _⟩
  case round =>
    obtain ⟨k, hk, rfl, hJs, hnx⟩ := hrel
    have hc := (hnx.cell (p := ⟨Bn, 0, none⟩) hBl).trans hBn
    have hpl := (scan_walk s k hk).1
    by_cases hlt : k < (scanR s).1.length
    · obtain ⟨hp, K, b, hD, hfr⟩ := scan_at hlt
      have hex : (s.extract (posF (scanR s).1 k) s.size).size < 281474976710656 := by rw [ByteArray.size_extract]; omega
      have HX := Lib.hid (fun W => decF_of hD hex W)
      have hln : (List.range k).length < (scanR s).1.length := by rw [List.length_range]; exact hlt
      have hpos : posF (scanR s).1 (k + 1) = posF (scanR s).1 k + (b.size + 9) := by show _ + _ = _; rw [hfr]
      have hps2 := (scan_walk s (k + 1) hlt).1
      have hen : encE (scanR s).1 k = #[.int .i64 (posF (scanR s).1 k : Nat), .agg #[.int .i64 (K : Nat), .string b]] := by unfold encE; rw [hfr]
      have hwk : IntKind.i64.wrap ((posF (scanR s).1 k : Int) + ((b.size + 9 : Nat) : Int)) = (posF (scanR s).1 (k + 1) : Int) := by rw [IntWalk.i64_in _ (by omega)]; omega
      gi_wp2_with (refine ⟨trivial, ?_⟩; gi_at_call 13; refine (callsIn_wide.2 (HX.out _)).mono ?_; rintro r w2 ⟨rfl, hb⟩; have hJ2 := hJ _ _ _ none (hJ _ _ _ none hJs (grown_below hb) (fun r e => by cases e)) (World.grownBy_alloc w2 (.cells #[.int .i64 (K : Nat), .string b] 25) none) (fun r e => by cases e); have hB2 := (hnx.trans (hb.mono (Nat.le_trans hn₀ hnx.size))).alloc (Nat.le_trans hn₀ (Nat.le_trans hnx.size hb.size)) (.cells #[.int .i64 (K : Nat), .string b] 25); obtain ⟨fn, tmps, assign, body, hy, hR⟩ := hY _ k _ hJ2 hln; rw [hen] at hy; clear hb hJ2)
      refine hR.mono ?_
      rintro e W3 (⟨rfl, hJ3, hk3⟩ | ⟨rfl, hJx3⟩)
      · gi_wp2
        go_roundw
        case rel => exact ⟨k + 1, hlt, by go_num, by rw [List.range_succ]; exact hJ3, hB2.trans hk3⟩
        case measure => simp [intOf]; omega
      · gi_wp2
        refine bodyPost_ret (results_none rfl _ _ _) rfl ?_
        exact ⟨⟨_, rfl⟩, .inr ⟨_, ⟨k + 1, List.range_succ.symm⟩, hJx3⟩⟩
    · obtain rfl : k = (scanR s).1.length := by omega
      have hL := @scan_last s
      generalize posF (scanR s).1 (scanR s).1.length = a at *
      by_cases hlt2 : a < s.size
      · obtain ⟨E, K, b, m, hD⟩ : ∃ E K b m, decP (s.extract a s.size) = (E, (K, (b, m))) := ⟨_, _, _, _, rfl⟩
        have hE := hL hlt2
        rw [hD] at hE
        have hex : (s.extract a s.size).size < 281474976710656 := by rw [ByteArray.size_extract]; omega
        have HX := Lib.hid (fun W => decF_of hD hex W)
        have hed : ((E : Int) != 0) = true := by simp at hE; simp; omega
        clear hD hL
        gi_wp2_with (refine ⟨trivial, ?_⟩; gi_at_call 13; refine (callsIn_wide.2 (HX.out _)).mono ?_; rintro r w2 ⟨rfl, hb⟩; have hJ2 := hJ _ _ _ none (hJ _ _ _ none hJs (grown_below hb) (fun r e => by cases e)) (World.grownBy_alloc w2 (.cells #[.int .i64 (K : Nat), .string b] 25) none) (fun r e => by cases e); clear hb)
        refine ⟨fun _ h => (by cases h), ?_⟩
        gi_wp2
        refine bodyPost_ret (results_none rfl _ _ _) rfl ?_
        exact ⟨⟨_, rfl⟩, .inl ⟨_, rfl, hJ2⟩⟩
      · gi_wp2
        go_end0
        exact ⟨⟨_, rfl⟩, .inl ⟨_, rfl, hJs⟩⟩
/-- Each's value, as a giver. -/
theorem fEach_stops (s : ByteArray) (hs : s.size ≤ 1099511627776) (n : Nat) (hn : 1 ≤ n) (Bn n₀ : Nat) (hBl : Bn < n₀) (w : World) (hn₀ : n₀ ≤ w.heap.size) (hBn : w.cell? ⟨Bn, 0, none⟩ = some (.string s)) :
    SeqStopsK Fence.wide n Try.prog 43 #[.pointer (some ⟨Bn, 0, none⟩)] (encE (scanR s).1) (Below n₀) (fun ys => ys = List.range (scanR s).1.length) (fun pre => ∃ k, pre = List.range k) (scanR s).1.length w := fun l J Jx W hW hJ _ hY h0 =>
  fEach1 s hs n hn l Bn n₀ J Jx hBl W (Nat.le_trans hn₀ hW.size) hJ hY ((hW.cell (p := ⟨Bn, 0, none⟩) (Nat.lt_of_lt_of_le hBl hn₀)).trans hBn) h0
end Go.Proofs.Ytlnekfdamdfelaa
