/- What a law's argument reads as: a commit. -/
import Derived.Test.YtmmabkppadokkaaOpenInts
import Derived.Test.YtmmabkppadokkaaCmW4
import Derived.Lib.SmallJoins
import Derived.Deep.Slices
import Derived.Deep.Fields
set_option linter.unusedVariables false
set_option linter.unusedSimpArgs false
namespace Go.Proofs.Ytmmabkppadokkaa
open Go.RowKit Go.ChangeShapes Go.WideShapes Go.Joins Go.Deep

section
variable {H : Type} {enc : TypeId × Value → H} {P : Program} {w : World}
theorem comOf {r : Reach} {b0 : Nat} {t ei : TypeId} {f0 f1 : Field} {v : Value} {d : DataW H} {p : List MemPlace} (hs : P.underlying t = some (.struct #[f0, f1])) (hone : oneCellFields P #[f0, f1] = true) (hC : P.cellsOf t = 2)
    (h0 : P.underlying f0.type = some (.slice ei)) (he : P.underlying ei = some (.int .i64)) (hc : P.cellsOf ei = 1) (h8 : P.bytesOf ei = 8) (h1 : P.underlying f1.type = some (.int .i64))
    (hv : Value.okWide P w r b0 t v) (h : DataW.Trod enc P w 0 (fun _ => true) true t v d p) (hw : ∀ n ∈ d.weights P t, n ≤ reachBytes) :
    ∃ (a : Option Addr) (zs : List Int) (cap : Nat) (tr : Int), v = .agg #[.slice a zs.length cap, .int .i64 tr] ∧ Com w a zs cap ∧ cap + 2 ≤ 17592186044416 := by
  obtain ⟨v0, v1, y0, y1, n, rfl, rfl, rfl, t0, t1⟩ := open_agg2 hs hone hC hv h
  obtain ⟨tr, e1, rfl, w1⟩ := DataW.trod_int h1 t1
  simp at e1
  subst e1
  rcases open_ints h0 he hc t0 with ⟨hcs, hx⟩ | ⟨x, l, c, zs, hcs, _, hl, hm, hz, hx, hcell, hws⟩
  · simp at hcs
    subst hcs
    exact ⟨none, [], 0, tr, rfl, ⟨fun i hi => absurd hi (by simp), Nat.le_refl _, by simp, by simp [maxLen], fun _ => rfl⟩, by omega⟩
  · simp at hcs
    subst hcs
    simp at hz
    have hcap : c * 8 ≤ reachBytes := by
      have hd : y0.1 = .slice (lits .i64 (zs.take l)) (lits .i64 (zs.drop l)) := congrArg Prod.fst hx
      have := hw ((lits (H := H) .i64 (zs.take l)).length + (lits (H := H) .i64 (zs.drop l)).length |> (· * P.bytesOf ei)) (by
        simp only [DataW.weights, hs]
        refine DataW.weights_mem_each (j := 0) (t := f0.type) (d := y0.1) rfl rfl _ ?_
        rw [hd]
        simp [DataW.weights, h0])
      rw [h8] at this
      have e : (lits (H := H) .i64 (zs.take l)).length + (lits (H := H) .i64 (zs.drop l)).length = c := by
        simp [lits]; omega
      simp only [e] at this
      exact this
    have hr : reachBytes = 140737488351232 := rfl
    have hll : (zs.take l).length = l := by simp; omega
    refine ⟨some x, zs.take l, c, tr, by rw [hll], ⟨fun i hi => ?_, by omega, by omega, by unfold maxLen; omega, fun e => by cases e⟩, by omega⟩
    have hi' : i < l := by rw [hll] at hi; exact hi
    have hx0 := addr_form (hcell 0 (by omega))
    have hci := hcell i (by omega)
    rw [hx0, add_form] at hci
    have hg : (zs.take l)[i] = zs.getD i 0 := by
      rw [List.getElem_take, List.getD_eq_getElem?_getD, List.getElem?_eq_getElem (by omega)]; rfl
    refine ⟨hws _ (by rw [List.getElem_take]; exact List.getElem_mem _), x.block, x.off, congrArg some hx0, ?_⟩
    rw [hg]
    exact hci
theorem weights_of {ts : List TypeId} {ds : List (DataW H)} (h : (DataW.weightsEach P ts ds).all (· ≤ reachBytes) = true) {j : Nat} {t : TypeId} {d : DataW H} (ht : ts[j]? = some t) (hd : ds[j]? = some d) : ∀ n ∈ d.weights P t, n ≤ reachBytes :=
  fun n hn => of_decide_eq_true (List.all_eq_true.1 h _ (DataW.weights_mem_each ht hd n hn))
end
end Go.Proofs.Ytmmabkppadokkaa
