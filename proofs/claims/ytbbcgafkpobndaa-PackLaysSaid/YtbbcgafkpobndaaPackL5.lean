/- Walk of the law PackLays: two writers side by side, and the nil one. -/
import Derived.Test.YtbbcgafkpobndaaPackL4
import Derived.Test.YtbbcgafkpobndaaLyMath
import Derived.Deep.RegionWith
set_option linter.unusedVariables false
set_option linter.unusedSimpArgs false
namespace Go.Proofs.Ytbbcgafkpobndaa
open Go.RowKit PackMath

/-- Two writers that share nothing. -/
structure Duet (B : Nat) (w : World) (p : Nat) (v : Value) (bs : List UInt8) (q : Nat) (u : Value) (cs : List UInt8) : Prop where
  fst : IsWr B w p v bs
  snd : IsWr B w q u cs
  ne : p ≠ q
  vq : some q ≠ v.ownBlock
  up : some p ≠ u.ownBlock
  apart : ∀ g, v.ownBlock = some g → u.ownBlock ≠ some g
theorem Duet.swap {B : Nat} {w : World} {p q : Nat} {v u : Value} {bs cs : List UInt8} (h : Duet B w p v bs q u cs) : Duet B w q u cs p v bs :=
  ⟨h.snd, h.fst, Ne.symm h.ne, h.up, h.vq, fun g hg e => h.apart g e hg⟩
theorem Duet.step {B : Nat} {w w' : World} {p q : Nat} {v v' u : Value} {bs bs' cs : List UInt8} (h : Duet B w p v bs q u cs) (hw : IsWr B w' p v' bs') (hm : Moved w w' p v v') : Duet B w' p v' bs' q u cs := by
  have hq : q < w.heap.size := (Array.getElem?_eq_some_iff.1 h.snd.cell).1
  have hp : p < w.heap.size := (Array.getElem?_eq_some_iff.1 h.fst.cell).1
  refine ⟨hw, ⟨h.snd.base, ?_, h.snd.own.1, ?_⟩, h.ne, ?_, h.up, ?_⟩
  · rw [hm.block q hq (Ne.symm h.ne) h.vq]; exact h.snd.cell
  · rcases h.snd.own.2 with h2 | ⟨g, cap, cur, hvv, hgb, hh, r⟩
    · exact .inl h2
    · have hgu : u.ownBlock = some g := by rw [hvv]; rfl
      refine .inr ⟨g, cap, cur, hvv, hgb, ?_, r⟩
      rw [hm.block g (Array.getElem?_eq_some_iff.1 hh).1 (fun e => h.up (by rw [hgu, e])) (fun e => h.apart g e.symm hgu)]
      exact hh
  · rcases hm.lies with e | ⟨g, e, hg⟩
    · rw [e]; exact h.vq
    · rw [e]; intro e2; have := Option.some.inj e2; omega
  · intro g hg hu
    rcases hm.lies with e | ⟨g', e, hg'⟩
    · exact h.apart g (e ▸ hg) hu
    · rw [e] at hg
      have e3 := Option.some.inj hg
      have := own_lt h.snd.own g hu
      omega
theorem Duet.below {B : Nat} {w w' : World} {p q : Nat} {v u : Value} {bs cs : List UInt8} (h : Duet B w p v bs q u cs) (k : Below w.heap.size w w') : Duet B w' p v bs q u cs :=
  ⟨h.fst.below k, h.snd.below k, h.ne, h.vq, h.up, h.apart⟩
theorem duet_new (w : World) : Duet w.heap.size ((w.alloc (.cells #[.slice none 0 0] 28)).alloc (.cells #[.slice none 0 0] 28)) w.heap.size (.slice none 0 0) [] (w.heap.size + 1) (.slice none 0 0) [] := by
  refine ⟨(wr_new w).below (bl_alloc (Below.refl _ _) _), ?_, by omega, by simp [Value.ownBlock], by simp [Value.ownBlock], fun g hg => by simp [Value.ownBlock] at hg⟩
  have := wr_new (w.alloc (.cells #[.slice none 0 0] 28))
  simp at this
  exact ⟨by omega, this.cell, World.ownsRow_nil _ _ _ _⟩
end Go.Proofs.Ytbbcgafkpobndaa
