/- Layer 8: changes as they lie. -/
import Derived.Test.YtplegohebfajlaaTrGd
set_option linter.unusedVariables false
set_option linter.unusedSimpArgs false
namespace Go.Proofs.Ytplegohebfajlaa
open Go.RowKit TrMath

abbrev Chs := List (ByteArray × Int × Int)
/-- Changes lie one behind the other. -/
def ChAt (w : World) (a : Option Addr) (l : Chs) : Prop := ∀ i (h : i < l.length), ∃ b off, a = some ⟨b, off, none⟩ ∧ b < w.heap.size ∧ w.cell? ⟨b, off + i * 3, none⟩ = some (.string l[i].1) ∧ w.cell? ⟨b, off + i * 3 + 1, none⟩ = some (.int .u32 l[i].2.1) ∧ w.cell? ⟨b, off + i * 3 + 2, none⟩ = some (.int .u32 l[i].2.2)
theorem ChAt.below {w w' : World} {a : Option Addr} {l : Chs} (h : ChAt w a l) (hb : Below w.heap.size w w') : ChAt w' a l := fun i hi => by
  obtain ⟨b, off, h1, h0, h2, h3, h4⟩ := h i hi
  have e := hb.block b h0
  exact ⟨b, off, h1, Nat.lt_of_lt_of_le h0 hb.size, by rw [World.cell?_of_block e]; exact h2, by rw [World.cell?_of_block e]; exact h3, by rw [World.cell?_of_block e]; exact h4⟩
theorem ChAt.take {w : World} {a : Option Addr} {l : Chs} (h : ChAt w a l) (n : Nat) : ChAt w a (l.take n) := fun i hi => by
  have hl : i < l.length := by rw [List.length_take] at hi; omega
  obtain ⟨b, off, h1, h0, h2, h3, h4⟩ := h i hl
  exact ⟨b, off, h1, h0, by rw [List.getElem_take]; exact h2, by rw [List.getElem_take]; exact h3, by rw [List.getElem_take]; exact h4⟩
end Go.Proofs.Ytplegohebfajlaa
