/- What a law's argument reads as: a frame. -/
import Derived.Test.YtlnekfdamdfelaaOpen
import Derived.Lib.SmallJoins
import Derived.Deep.Slices
import Derived.Deep.Fields
set_option linter.unusedVariables false
set_option linter.unusedSimpArgs false
namespace Go.Proofs.Ytlnekfdamdfelaa
open Go.RowKit Go.ChangeShapes Go.WideShapes Go.Joins Go.Deep

section
variable {H : Type} {enc : TypeId × Value → H} {P : Program} {w : World}
theorem frameOf {r : Reach} {b0 : Nat} {t : TypeId} {f0 f1 : Field} {v : Value} {d : DataW H} {p : List MemPlace} (hs : P.underlying t = some (.struct #[f0, f1])) (hone : oneCellFields P #[f0, f1] = true) (hC : P.cellsOf t = 2)
    (h0 : P.underlying f0.type = some (.int .i64)) (h1 : P.underlying f1.type = some .string)
    (hv : Value.okWide P w r b0 t v) (h : DataW.Trod enc P w 0 (fun _ => true) true t v d p) (hw : ∀ n ∈ d.weights P t, n ≤ reachBytes) :
    ∃ (k : Int) (b : ByteArray), v = .agg #[.int .i64 k, .string b] ∧ b.size ≤ 140737488351232 ∧ -9223372036854775808 ≤ k ∧ k ≤ 9223372036854775807 := by
  obtain ⟨v0, v1, y0, y1, n, rfl, rfl, rfl, t0, t1⟩ := open_agg2 hs hone hC hv h
  obtain ⟨k, e0, rfl, w0⟩ := DataW.trod_int h0 t0
  obtain ⟨b, e1, rfl, w1⟩ := DataW.trod_string h1 t1
  simp at e0 e1
  subst e0 e1
  have hb := bounds_i64 w0
  refine ⟨k, b, rfl, ?_, hb.1, hb.2⟩
  have := hw b.data.toList.length (by
    simp only [DataW.weights, hs]
    exact DataW.weights_mem_each (j := 1) (t := f1.type) (d := .lit (.string b.data.toList)) rfl rfl _ (by simp [DataW.weights]))
  have hr : reachBytes = 140737488351232 := rfl
  rw [Array.length_toList] at this
  exact this
theorem weights_of {ts : List TypeId} {ds : List (DataW H)} (h : (DataW.weightsEach P ts ds).all (· ≤ reachBytes) = true) {j : Nat} {t : TypeId} {d : DataW H} (ht : ts[j]? = some t) (hd : ds[j]? = some d) : ∀ n ∈ d.weights P t, n ≤ reachBytes :=
  fun n hn => of_decide_eq_true (List.all_eq_true.1 h _ (DataW.weights_mem_each ht hd n hn))
end
end Go.Proofs.Ytlnekfdamdfelaa
