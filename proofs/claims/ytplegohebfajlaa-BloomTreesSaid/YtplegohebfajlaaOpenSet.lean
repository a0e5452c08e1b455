/- What a law's argument reads as: settings. -/
import Derived.Test.YtplegohebfajlaaOpen
import Derived.Lib.SmallJoins
import Derived.Deep.Slices
import Derived.Deep.Fields
set_option linter.unusedVariables false
set_option linter.unusedSimpArgs false
namespace Go.Proofs.Ytplegohebfajlaa
open Go.RowKit Go.ChangeShapes Go.WideShapes Go.Joins Go.Deep

section
variable {H : Type} {enc : TypeId × Value → H} {P : Program} {w : World}
theorem setsOf {r : Reach} {b0 : Nat} {t : TypeId} {f0 f1 f2 f3 : Field} {v : Value} {d : DataW H} {p : List MemPlace} (hs : P.underlying t = some (.struct #[f0, f1, f2, f3])) (hone : oneCellFields P #[f0, f1, f2, f3] = true) (hC : P.cellsOf t = 4)
    (h0 : P.underlying f0.type = some (.int .i64)) (h1 : P.underlying f1.type = some (.int .i64)) (h2 : P.underlying f2.type = some (.int .i64)) (h3 : P.underlying f3.type = some (.int .u32))
    (hv : Value.okWide P w r b0 t v) (h : DataW.Trod enc P w 0 (fun _ => true) true t v d p) :
    ∃ (k l m : Int) (s : Nat), v = .agg #[.int .i64 k, .int .i64 l, .int .i64 m, .int .u32 s] ∧ s < 4294967296 ∧ (-9223372036854775808 ≤ m ∧ m ≤ 9223372036854775807) := by
  obtain ⟨v0, v1, v2, v3, y0, y1, y2, y3, n, rfl, rfl, rfl, t0, t1, t2, t3⟩ := open_agg4 hs hone hC hv h
  obtain ⟨k, e0, rfl, w0⟩ := DataW.trod_int h0 t0
  obtain ⟨l, e1, rfl, w1⟩ := DataW.trod_int h1 t1
  obtain ⟨m, e2, rfl, w2⟩ := DataW.trod_int h2 t2
  obtain ⟨s, e3, rfl, w3⟩ := DataW.trod_int h3 t3
  simp at e0 e1 e2 e3
  subst e0 e1 e2 e3
  have hb := bounds_u32 w3
  have hm := bounds_i64 w2
  obtain ⟨s', rfl⟩ := Int.eq_ofNat_of_zero_le hb.1
  exact ⟨k, l, m, s', rfl, by omega, hm⟩
/-- A []string argument, with its capacity. -/
theorem strsCap {t e : TypeId} {a : Option Addr} {len cap : Nat} {d : DataW H} {ps : List MemPlace} (ht : P.underlying t = some (.slice e)) (he : P.underlying e = some .string) (hc : P.cellsOf e = 1)
    (h : DataW.Trod enc P w 0 (fun _ => true) true t (.slice a len cap) d ps) : len ≤ cap ∧ cap ≤ maxLen ∧ (a = none → cap = 0) := by
  obtain ⟨fuel, hf⟩ := h
  rcases Go.ChangeShapes.open_strings ht he hc hf with ⟨hcs, hx⟩ | ⟨x, l, c, ss, hcs, _, hl, hm, hz, hx, hcell, hws⟩
  · simp [Value.cells] at hcs
    obtain ⟨rfl, rfl, rfl⟩ := hcs
    exact ⟨Nat.le_refl _, Nat.zero_le _, fun _ => rfl⟩
  · simp [Value.cells] at hcs
    obtain ⟨rfl, rfl, rfl⟩ := hcs
    exact ⟨hl, hm, fun h => by cases h⟩
end
end Go.Proofs.Ytplegohebfajlaa
