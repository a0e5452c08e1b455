/- Walks of layer 8: a copy with marked room; is it kept?; writing over an answer. -/
import Derived.Test.YtplegohebfajlaaTrOwn
set_option linter.unusedVariables false
set_option linter.unusedSimpArgs false
namespace Go.Proofs.Ytplegohebfajlaa
open Go.RowKit TrMath

def spP : ByteArray := ⟨#[115, 112, 97, 114, 101]⟩
def rmP : ByteArray := ⟨#[114, 111, 111, 109]⟩
def sp : List (ByteArray × Int) := [(spP, 9), (rmP, 8)]
theorem en_alloc2 (w : World) (p q : ByteArray) (v u : Int) (t : TypeId) : EnAt (w.alloc (.cells #[.string p, .int .u32 v, .string q, .int .u32 u] t)) (some ⟨w.heap.size, 0, none⟩) [(p, v), (q, u)] := by
  intro i hi
  match i, hi with
  | 0, _ => exact ⟨_, _, rfl, by simp, by rw [World.cell?_alloc_mark]; rfl, by rw [World.cell?_alloc_mark]; rfl⟩
  | 1, _ => exact ⟨_, _, rfl, by simp, by rw [World.cell?_alloc_mark]; rfl, by rw [World.cell?_alloc_mark]; rfl⟩
theorem en_alloc1 (w : World) (p : ByteArray) (v : Int) (t : TypeId) : EnAt (w.alloc (.cells #[.string p, .int .u32 v] t)) (some ⟨w.heap.size, 0, none⟩) [(p, v)] := by
  intro i hi
  match i, hi with
  | 0, _ => exact ⟨_, _, rfl, by simp, by rw [World.cell?_alloc_mark]; rfl, by rw [World.cell?_alloc_mark]; rfl⟩

theorem sp_cells {w : World} {B g : Nat} {l : List (ByteArray × Int)} (h : OwnB w B g (l.length + 3) (l ++ sp)) :
    w.cell? ⟨g, l.length * 2, none⟩ = some (.string ⟨#[115, 112, 97, 114, 101]⟩) ∧ w.cell? ⟨g, l.length * 2 + 1, none⟩ = some (.int .u32 9) ∧ w.cell? ⟨g, l.length * 2 + 2, none⟩ = some (.string ⟨#[114, 111, 111, 109]⟩) ∧ w.cell? ⟨g, l.length * 2 + 3, none⟩ = some (.int .u32 8) := by
  obtain ⟨b, off, h1, _, h2, h3⟩ := h.at l.length (by simp [sp])
  cases h1
  obtain ⟨b, off, h1, _, h4, h5⟩ := h.at (l.length + 1) (by simp [sp])
  cases h1
  rw [List.getElem_append_right (Nat.le_refl _)] at h2 h3
  rw [List.getElem_append_right (by omega)] at h4 h5
  simp only [Nat.zero_add, Nat.sub_self, Nat.add_sub_cancel_left, show (l.length + 1) * 2 = l.length * 2 + 2 from by omega] at h2 h3 h4 h5
  exact ⟨h2, h3, h4, h5⟩
end Go.Proofs.Ytplegohebfajlaa
