/- What a law's arguments read as, in the words of the walks: slices of texts; What a law's arguments read as: slices of integers. -/
import Derived.Test.YtbhfbdcmamodcaaGreatDoorL03
import Derived.ProofKit
import Derived.OpenShut
import Derived.ShutString
import Derived.ChangeOld
import Derived.SizedLaws
import Derived.Below
set_option linter.unusedVariables false
set_option linter.unusedSimpArgs false
namespace Go.Proofs.YtbhfbdcmamodcaaGreatDoor
open Go.RowKit Go.ChangeShapes Go.WideShapes
def StrsAt (w : World) (a : Option Addr) (ss : List ByteArray) : Prop :=
  ∀ i (h : i < ss.length), ss[i].size ≤ maxLen ∧ ∃ b off, a = some ⟨b, off, none⟩ ∧ w.cell? ⟨b, off + i, none⟩ = some (.string ss[i])
theorem StrsAt.below {w w' : World} {B : Nat} {a : Option Addr} {ss : List ByteArray} (h : StrsAt w a ss) (hb : Below B w w') (hB : w.heap.size ≤ B) : StrsAt w' a ss := fun i hi => by
  obtain ⟨h1, b, off, h2, h3⟩ := h i hi
  refine ⟨h1, b, off, h2, ?_⟩
  rw [hb.cell (p := ⟨b, off + i, none⟩) (Nat.lt_of_lt_of_le (World.block_lt_of_cell? w _ h3) hB)]
  exact h3
theorem addr_form {w : World} {x : Addr} {v : Value} (h : w.cell? (x.add 0) = some v) : x = ⟨x.block, x.off, none⟩ := by
  obtain ⟨b, off, spot⟩ := x
  have hs := World.cell?_spot h
  simp [Addr.add] at hs
  subst hs
  rfl
theorem add_form (b off i : Nat) : (⟨b, off, none⟩ : Addr).add i = ⟨b, off + i, none⟩ := by
  unfold Addr.add
  split
  · rename_i e; subst e; rfl
  · rfl
section
variable {H : Type} {enc : TypeId × Value → H} {P : Program} {w : World}
end
end Go.Proofs.YtbhfbdcmamodcaaGreatDoor
namespace Go.Proofs.YtbhfbdcmamodcaaGreatDoor
open Go.RowKit Go.ChangeShapes Go.WideShapes
def IntsAt (w : World) (k : IntKind) (a : Option Addr) (zs : List Int) : Prop :=
  ∀ i (h : i < zs.length), (Lit.int k zs[i]).wf = true ∧ ∃ b off, a = some ⟨b, off, none⟩ ∧ w.cell? ⟨b, off + i, none⟩ = some (.int k zs[i])
theorem IntsAt.below {w w' : World} {B : Nat} {k : IntKind} {a : Option Addr} {zs : List Int} (h : IntsAt w k a zs) (hb : Below B w w') (hB : w.heap.size ≤ B) : IntsAt w' k a zs := fun i hi => by
  obtain ⟨h1, b, off, h2, h3⟩ := h i hi
  refine ⟨h1, b, off, h2, ?_⟩
  rw [hb.cell (p := ⟨b, off + i, none⟩) (Nat.lt_of_lt_of_le (World.block_lt_of_cell? w _ h3) hB)]
  exact h3
section
variable {H : Type} {enc : TypeId × Value → H} {P : Program} {w : World}
theorem intsOf {t e : TypeId} {k : IntKind} {a : Option Addr} {len cap : Nat} {d : DataW H} {ps : List MemPlace} (ht : P.underlying t = some (.slice e)) (he : P.underlying e = some (.int k)) (hc : P.cellsOf e = 1)
    (h : DataW.Trod enc P w 0 (fun _ => true) true t (.slice a len cap) d ps) :
    ∃ zs : List Int, zs.length = len ∧ len ≤ maxLen ∧ IntsAt w k a zs ∧ ((∃ rest, d = .slice (ChangeShapes.lits k zs) rest) ∨ (d = .nil ∧ zs = [])) := by
  obtain ⟨fuel, hf⟩ := h
  rcases open_ints ht he hc hf with ⟨hcs, hx⟩ | ⟨x, l, c, zs, hcs, _, hl, hm, hz, hx, hcell, hws⟩
  · simp [Value.cells] at hcs
    obtain ⟨rfl, rfl, rfl⟩ := hcs
    refine ⟨[], rfl, Nat.zero_le _, fun i hi => absurd hi (by simp), .inr ⟨?_, rfl⟩⟩
    simpa using congrArg Prod.fst hx
  · simp [Value.cells] at hcs
    obtain ⟨rfl, rfl, rfl⟩ := hcs
    simp at hz
    refine ⟨zs.take len, by simp; omega, by omega, fun i hi => ?_, .inl ⟨_, congrArg Prod.fst hx⟩⟩
    have hi' : i < len := by simp at hi; omega
    have h0 := addr_form (hcell 0 (by omega))
    have hci := hcell i (by omega)
    rw [h0, add_form] at hci
    have hg : (zs.take len)[i] = zs.getD i 0 := by
      rw [List.getElem_take, List.getD_eq_getElem?_getD, List.getElem?_eq_getElem (by omega)]; rfl
    refine ⟨hws _ (by rw [List.getElem_take]; exact List.getElem_mem _), x.block, x.off, congrArg some h0, ?_⟩
    rw [hg]
    exact hci
end
end Go.Proofs.YtbhfbdcmamodcaaGreatDoor
