/- Walk of the law PackShort. -/
import Derived.Test.YtlnekfdamdfelaaRdW5
import Derived.Test.YtlnekfdamdfelaaRdMath3
set_option linter.unusedVariables false
set_option linter.unusedSimpArgs false
namespace Go.Proofs.Ytlnekfdamdfelaa
open Go.RowKit PackMath

theorem IsWr.below {B p : Nat} {w w' : World} {v : Value} {bs : List UInt8} (h : IsWr B w p v bs) (k : Below w.heap.size w w') : IsWr B w' p v bs := by
  refine ⟨h.base, by rw [k.block p (Array.getElem?_eq_some_iff.1 h.cell).1]; exact h.cell, h.own.1, ?_⟩
  rcases h.own.2 with h2 | ⟨g, cap, cur, hvv, hgb, hh, r⟩
  · exact .inl h2
  · exact .inr ⟨g, cap, cur, hvv, hgb, by rw [k.block g (Array.getElem?_eq_some_iff.1 hh).1]; exact hh, r⟩

theorem bytes_ex (B p : Nat) (w : World) (v : Value) (bs : List UInt8) (h : IsWr B w p v bs) :
    Calls Try.prog 26 #[.pointer (some ⟨p, 0, none⟩)] w fun e w' => ∃ S : ByteArray, S.data.toList = bs ∧ S.size = bs.length ∧ e = .returned (.string S) ∧ w = w' :=
  (bytes_any B p w v bs h).mono fun _ _ ⟨h1, h2⟩ => ⟨⟨bs.toArray⟩, by simp, by show bs.toArray.size = _; simp, h1, h2⟩

theorem bytes_eq {S T : ByteArray} (h : S.data.toList = T.data.toList) : S = T := by
  cases S; cases T; simp only [ByteArray.mk.injEq]; exact Array.toList_inj.1 h

end Go.Proofs.Ytlnekfdamdfelaa
