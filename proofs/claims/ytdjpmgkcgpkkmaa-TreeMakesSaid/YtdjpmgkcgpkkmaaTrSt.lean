/- Walks of layer 8: the document's first examples. -/
import Derived.Test.YtdjpmgkcgpkkmaaTrLk
set_option linter.unusedVariables false
set_option linter.unusedSimpArgs false
namespace Go.Proofs.Ytdjpmgkcgpkkmaa
open Go.RowKit TrMath

def stL : Ents := [(⟨#[98]⟩, 2), (⟨#[97]⟩, 1), (⟨#[98]⟩, 3), (⟨#[99]⟩, 4), (⟨#[99]⟩, 0)]
def stT : Ents := [(⟨#[97]⟩, 1), (⟨#[98]⟩, 3)]
theorem stE : mkE stL = 0 := by decide
theorem stMk : mkT stL = stT := by decide
theorem stLk : lookL stT ⟨#[98]⟩ = 3 := by decide
theorem stAsc : Asc stT := by rw [← stMk]; exact (foldP_good Good.nil stL).asc
theorem en_stL (w : World) (t : TypeId) : EnAt (w.alloc (.cells #[.string ⟨#[98]⟩, .int .u32 2, .string ⟨#[97]⟩, .int .u32 1, .string ⟨#[98]⟩, .int .u32 3, .string ⟨#[99]⟩, .int .u32 4, .string ⟨#[99]⟩, .int .u32 0] t)) (some ⟨w.heap.size, 0, none⟩) stL := by
  intro i hi
  match i, hi with
  | 0, _ => exact ⟨_, _, rfl, by simp, by rw [World.cell?_alloc_mark]; rfl, by rw [World.cell?_alloc_mark]; rfl⟩
  | 1, _ => exact ⟨_, _, rfl, by simp, by rw [World.cell?_alloc_mark]; rfl, by rw [World.cell?_alloc_mark]; rfl⟩
  | 2, _ => exact ⟨_, _, rfl, by simp, by rw [World.cell?_alloc_mark]; rfl, by rw [World.cell?_alloc_mark]; rfl⟩
  | 3, _ => exact ⟨_, _, rfl, by simp, by rw [World.cell?_alloc_mark]; rfl, by rw [World.cell?_alloc_mark]; rfl⟩
  | 4, _ => exact ⟨_, _, rfl, by simp, by rw [World.cell?_alloc_mark]; rfl, by rw [World.cell?_alloc_mark]; rfl⟩

def stBox : Obj := .cells #[.string ⟨#[98]⟩, .int .u32 2, .string ⟨#[97]⟩, .int .u32 1, .string ⟨#[98]⟩, .int .u32 3, .string ⟨#[99]⟩, .int .u32 4, .string ⟨#[99]⟩, .int .u32 0] 39
theorem stMake (W : World) : Calls Try.prog 12 #[.slice (some ⟨W.heap.size, 0, none⟩) 5 5] (W.alloc (.cells #[.string ⟨#[98]⟩, .int .u32 2, .string ⟨#[97]⟩, .int .u32 1, .string ⟨#[98]⟩, .int .u32 3, .string ⟨#[99]⟩, .int .u32 4, .string ⟨#[99]⟩, .int .u32 0] 39)) fun e w2 => ∃ b1 o1 c, e = .returned (.tuple #[.slice (some ⟨b1, o1, none⟩) 2 c, .int .i64 0]) ∧ EnAt w2 (some ⟨b1, o1, none⟩) stT ∧ Below W.heap.size W w2 :=
  (tMake stL (sorts_small stL (by decide)) (some ⟨W.heap.size, 0, none⟩) 5 (by decide) _ (en_stL W _)).mono fun e w2 ⟨v, he, hown, hb⟩ => by
    rw [stMk] at hown
    rw [stE] at he
    obtain ⟨a, c, rfl, hen, _, _⟩ := Own.at hown
    obtain ⟨b1, o1, rfl, _⟩ := hen 0 (by decide)
    exact ⟨b1, o1, c, he, hen, bl_trans (bl_alloc (Below.refl _ W) _) hb⟩
theorem stLook (W : World) (a : Option Addr) (c : Nat) (h : EnAt W a stT) : Calls Try.prog 25 #[.slice a 2 c, .string ⟨#[98]⟩] W fun e w' => e = .returned (.int .u32 3) ∧ Below W.heap.size W w' :=
  (tLook stT stAsc ⟨#[98]⟩ a c (by decide) W h).mono fun e w' ⟨he, hb⟩ => ⟨by rw [he, stLk], hb⟩

set_option maxHeartbeats 1000000 in
set_option maxRecDepth 100000 in
theorem lStands (w : World) : Calls Try.prog 10 #[] w fun e w' => e = .returned (.bool true) ∧ Below w.heap.size w w' := by
  have HM := Lib.hid (stMake w)
  have HL := Lib.hid (fun W a c hW => stLook W a c hW)
  go_enter Try.func10, Try.ntmps10
  go_wp2_with fail
  refine HM.out.mono ?_
  rintro e w2 ⟨b1, o1, c, rfl, hen, hb⟩
  have HB := Lib.hid hb
  have HEN := Lib.hid hen
  obtain ⟨b2, o2, hbb, _, p1, p2⟩ := hen 0 (by decide)
  cases hbb
  obtain ⟨b2, o2, hbb, _, q1, q2⟩ := hen 1 (by decide)
  cases hbb
  have P1 : w2.cell? ⟨b1, o1, none⟩ = some (.string ⟨#[97]⟩) := by simpa [stT] using p1
  have P2 : w2.cell? ⟨b1, o1 + 1, none⟩ = some (.int .u32 1) := by simpa [stT] using p2
  have Q1 : w2.cell? ⟨b1, o1 + 2, none⟩ = some (.string ⟨#[98]⟩) := by simpa [stT] using q1
  have Q2 : w2.cell? ⟨b1, o1 + 3, none⟩ = some (.int .u32 3) := by simpa [stT] using q2
  clear hen hb p1 p2 q1 q2
  go_wp2_with (go_at_call 25; (with_reducible refine (HL.out _ _ _ HEN.out).mono ?_); rintro e w3 ⟨rfl, hb⟩; have HB3 := Lib.hid (bl_trans HB.out hb); clear hb)
  go_ret
  exact ⟨rfl, HB3.out⟩
end Go.Proofs.Ytdjpmgkcgpkkmaa
