/- Walks of layer 2: numbers of the document's reader, and of one, two, four, eight bytes. -/
import Derived.Test.YtlnekfdamdfelaaRdW3
set_option linter.unusedVariables false
set_option linter.unusedSimpArgs false
namespace Go.Proofs.Ytlnekfdamdfelaa
open Go.RowKit PackMath

theorem mid_take (s : ByteArray) (a k n : Nat) (h : k < n) (h2 : a + n ≤ s.size) : num ((s.data.toList.drop a).take (k + 1)) = num ((s.data.toList.drop a).take k) * 256 + (s[a + k]'(by omega)).toNat := by
  have hl : k < (s.data.toList.drop a).length := by rw [List.length_drop]; have : s.data.toList.length = s.size := by simp; 
                                                    omega
  rw [List.take_succ_eq_append_getElem hl, num_snoc, List.getElem_drop]
  rfl

theorem idx_at (s : ByteArray) (a k : Nat) (h : a + k < s.size) (W : World) : (Instr.index 9 (.string s) (.int .i64 ((a : Int) + k))).run Try.prog W = .ok (.int .u8 (s[a + k].toNat : Nat)) W := by
  rw [run_index_string W _ _ _ _ Try.underlying9, dif_pos (by omega)]
  simp only [show ((a : Int) + k).toNat = a + k from by omega]

end Go.Proofs.Ytlnekfdamdfelaa
