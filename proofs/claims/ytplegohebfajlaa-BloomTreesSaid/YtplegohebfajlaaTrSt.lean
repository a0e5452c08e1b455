/- Walks of layer 8: the document's first examples. -/
import Derived.Test.YtplegohebfajlaaTrLk
set_option linter.unusedVariables false
set_option linter.unusedSimpArgs false
namespace Go.Proofs.Ytplegohebfajlaa
open Go.RowKit TrMath

def stL : Ents := [(⟨#[98]⟩, 2), (⟨#[97]⟩, 1), (⟨#[98]⟩, 3), (⟨#[99]⟩, 4), (⟨#[99]⟩, 0)]
def stT : Ents := [(⟨#[97]⟩, 1), (⟨#[98]⟩, 3)]
theorem stE : mkE stL = 0 := by decide
theorem stMk : mkT stL = stT := by decide
theorem stLk : lookL stT ⟨#[98]⟩ = 3 := by decide
theorem stAsc : Asc stT := by rw [← stMk]; exact (foldP_good Good.nil stL).asc
theorem en_stL (w : World) (t : TypeId) : EnAt (w.alloc (.cells #[.string ⟨#[98]⟩, .int .u32 2, .string ⟨#[97]⟩, .int .u32 1, .string ⟨#[98]⟩, .int .u32 3, .string ⟨#[99]⟩, .int .u32 4, .string ⟨#[99]⟩, .int .u32 0] t)) (some ⟨w.heap.size, 0, none⟩) stL := by
  intro i hi
  match i, hi with
  | 0, _ => exact ⟨_, _, rfl, by simp, by rw [World.cell?_alloc_mark]; rfl, by rw [World.cell?_alloc_mark]; rfl⟩
  | 1, _ => exact ⟨_, _, rfl, by simp, by rw [World.cell?_alloc_mark]; rfl, by rw [World.cell?_alloc_mark]; rfl⟩
  | 2, _ => exact ⟨_, _, rfl, by simp, by rw [World.cell?_alloc_mark]; rfl, by rw [World.cell?_alloc_mark]; rfl⟩
  | 3, _ => exact ⟨_, _, rfl, by simp, by rw [World.cell?_alloc_mark]; rfl, by rw [World.cell?_alloc_mark]; rfl⟩
  | 4, _ => exact ⟨_, _, rfl, by simp, by rw [World.cell?_alloc_mark]; rfl, by rw [World.cell?_alloc_mark]; rfl⟩

def stBox : Obj := .cells #[.string ⟨#[98]⟩, .int .u32 2, .string ⟨#[97]⟩, .int .u32 1, .string ⟨#[98]⟩, .int .u32 3, .string ⟨#[99]⟩, .int .u32 4, .string ⟨#[99]⟩, .int .u32 0] 47
end Go.Proofs.Ytplegohebfajlaa
