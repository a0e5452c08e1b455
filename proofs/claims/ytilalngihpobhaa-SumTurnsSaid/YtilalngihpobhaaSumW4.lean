/- Walks of layer 1: the document's first example, and the laws SumIs and SumMore. -/
import Derived.Test.YtilalngihpobhaaSumW3
set_option linter.unusedVariables false
set_option linter.unusedSimpArgs false
namespace Go.Proofs.Ytilalngihpobhaa
open Go.RowKit SumMath

theorem sum_at (a : Option Addr) (n cap : Nat) (ss : List ByteArray) (hn : n = ss.length) (hl : n ≤ maxLen) (w : World) (hS : StrsAt w a ss) :
    Calls Try.prog 10 #[.slice a n cap] w fun e w' => e = .returned (.int .u32 (crc (flat ss))) ∧ Below w.heap.size w w' := by
  subst hn
  exact sum_any a cap ss hl w hS

def digits : ByteArray := ⟨#[49, 50, 51, 52, 53, 54, 55, 56, 57]⟩
theorem digits_crc : (((crc (flat [digits]) : Nat) : Int) == 3421780262) = true := by decide +kernel

theorem strs_new (w : World) (t : TypeId) (ss : List ByteArray) (hz : ∀ s ∈ ss, s.size ≤ maxLen) (cs : Array Value) (hc : cs = (ss.map Value.string).toArray) :
    StrsAt (w.alloc (.cells cs t)) (some ⟨w.heap.size, 0, none⟩) ss := fun i hi => by
  refine ⟨hz _ (List.getElem_mem hi), w.heap.size, 0, rfl, ?_⟩
  rw [Nat.zero_add, World.cell?_alloc_new, hc]
  simp [hi]

set_option maxHeartbeats 400000 in
theorem known_any (w : World) :
    Calls Try.prog 9 #[] w fun e w' => e = .returned (.bool true) ∧ Below w.heap.size w w' := by
  have hk := digits_crc
  have hd : (⟨#[49, 50, 51, 52, 53, 54, 55, 56, 57]⟩ : ByteArray) = digits := rfl
  go_enter Try.func9, Try.ntmps9
  rw [hd]
  go_wp2_with (go_at_call 10; refine (sum_any _ 1 [digits] (by decide) _ (strs_new w 9 [digits] (by decide) _ rfl)).mono ?_; rintro e w1 ⟨rfl, hb1⟩)
  go_ret
  exact ⟨rfl, ((Below.refl _ _).alloc (Nat.le_refl _) _).trans (hb1.mono (by simp))⟩

set_option maxHeartbeats 400000 in
theorem sumIs_any (a : Option Addr) (cap : Nat) (ss : List ByteArray) (hl : ss.length ≤ maxLen) (w : World) (hS : StrsAt w a ss) :
    Calls Try.prog 3 #[.slice a ss.length cap] w fun e w' => e = .returned (.bool true) ∧ Below w.heap.size w w' := by
  have HS := Lib.hid hS
  clear hS
  have he : (((crc (flat ss) : Nat) : Int) == ((crc (flat ss) : Nat) : Int)) = true := by simp
  go_enter Try.func3, Try.ntmps3
  go_wp2_with (go_at_call 9; refine (known_any _).mono ?_; rintro e w1 ⟨rfl, hb1⟩)
  have hS1 := HS.out.below hb1 (Nat.le_refl _)
  refine (sum_any a cap ss hl _ hS1).mono ?_
  rintro e w2 ⟨rfl, hb2⟩
  have hS2 := hS1.below hb2 (Nat.le_refl _)
  go_wp2_with fail
  refine (refsum_any a cap ss hl _ hS2).mono ?_
  rintro e w3 ⟨rfl, rfl⟩
  go_wp2
  go_ret
  exact ⟨rfl, hb1.trans (hb2.mono hb1.size)⟩

set_option maxHeartbeats 400000 in
theorem sumMore_any (s : Nat) (hs : s < 4294967296) (t : ByteArray) (ht : t.size ≤ maxLen) (w : World) :
    Calls Try.prog 5 #[.int .u32 s, .string t] w fun e w' => e = .returned (.bool true) ∧ Below w.heap.size w w' := by
  have he : (((more s t.data.toList : Nat) : Int) == ((more s t.data.toList : Nat) : Int)) = true := by simp
  go_enter Try.func5, Try.ntmps5
  go_wp2_with (go_at_call 9; refine (known_any _).mono ?_; rintro e w1 ⟨rfl, hb1⟩)
  refine (more_any s hs t ht _).mono ?_
  rintro e w2 ⟨rfl, hb2⟩
  go_wp2_with fail
  refine (refmore_any s hs t ht _).mono ?_
  rintro e w3 ⟨rfl, rfl⟩
  go_wp2
  go_ret
  exact ⟨rfl, hb1.trans (hb2.mono hb1.size)⟩
end Go.Proofs.Ytilalngihpobhaa
