/- Walks of layer 8: an entry put into a row of one's own. -/
import Derived.Test.YtdjpmgkcgpkkmaaTrDel
import Derived.Shelf.Spec.SlicesInsert
set_option linter.unusedVariables false
set_option linter.unusedSimpArgs false
namespace Go.Proofs.Ytdjpmgkcgpkkmaa
open Go.RowKit TrMath

theorem enCells_take : ∀ (l : Ents) (n : Nat), (enCells l).take (n * 2) = enCells (l.take n) := by
  intro l
  induction l with
  | nil => intro n; simp [enCells]
  | cons x r ih =>
    intro n
    have e : enCells (x :: r) = .string x.1 :: .int .u32 x.2 :: enCells r := rfl
    match n with
    | 0 => simp [enCells]
    | n + 1 => rw [e, show (n + 1) * 2 = n * 2 + 1 + 1 from by omega]; simp only [List.take_succ_cons]; rw [ih]; rfl
theorem enCells_drop : ∀ (l : Ents) (n : Nat), (enCells l).drop (n * 2) = enCells (l.drop n) := by
  intro l
  induction l with
  | nil => intro n; simp [enCells]
  | cons x r ih =>
    intro n
    have e : enCells (x :: r) = .string x.1 :: .int .u32 x.2 :: enCells r := rfl
    match n with
    | 0 => simp
    | n + 1 => rw [e, show (n + 1) * 2 = n * 2 + 1 + 1 from by omega]; simp only [List.drop_succ_cons]; rw [ih]
/-- Entries written into the midst of a block of one's own. -/
theorem OwnB.write {w : World} {B g cap : Nat} {L xs : Ents} (h : OwnB w B g cap L) {k : Nat} (hk : k + xs.length ≤ L.length) : OwnB (w.setCells g (k * 2) (enCells xs)) B g cap (L.take k ++ (xs ++ L.drop (k + xs.length))) := by
  obtain ⟨cur, hB, hh, hn, hm, hs, ht⟩ := h
  have hcl : cur.toList.length = cap * 2 := by rw [Array.length_toList, hs]
  obtain ⟨cur', h1, h2⟩ := setCells_block g _ (enCells xs) (k * 2) cur w hh (by rw [enCells_len, hs]; omega)
  have hc : cur'.size = cap * 2 := by rw [← Array.length_toList, h2]; simp [enCells_len, hcl]; omega
  have hlen : (L.take k ++ (xs ++ L.drop (k + xs.length))).length = L.length := by simp; omega
  refine ⟨cur', hB, h1, by rw [hlen]; exact hn, hm, hc, ?_⟩
  rw [hlen, h2, enCells_append, enCells_append, ← enCells_take, ← enCells_drop, ← ht]
  rw [List.append_assoc, List.take_append, List.take_append, List.take_take, List.length_take, hcl, enCells_len, List.take_take]
  rw [show min (L.length * 2) (k * 2) = k * 2 from by omega, show min (k * 2) (cap * 2) = k * 2 from by omega, show min (k * 2) (L.length * 2) = k * 2 from by omega]
  rw [List.take_of_length_le (l := enCells xs) (by rw [enCells_len]; omega)]
  rw [List.drop_take, show L.length * 2 - k * 2 - xs.length * 2 = L.length * 2 - (k + xs.length) * 2 from by omega, show k * 2 + xs.length * 2 = (k + xs.length) * 2 from by omega]
theorem run_copy_en {w : World} {g o dLen dCap sLen sCap : Nat} {q : Addr} {xs : Ents} {ty : TypeId} (hn : xs.length = Nat.min sLen dLen) (hsrc : ∀ j u, (enCells xs)[j]? = some u → w.cell? (q.add j) = some u)
    (hd : ∀ j, j < xs.length * 2 → (w.cell? ⟨g, o + j, none⟩).isSome = true ∧ w.frozen? ⟨g, o + j, none⟩ = false) :
    (Builtin.copy_ #[22, 22] ty #[.slice (some ⟨g, o, none⟩) dLen dCap, .slice (some q) sLen sCap]).run Try.prog w = .ok (goInt xs.length) (w.setCells g o (enCells xs)) := by
  obtain ⟨i0, hi, hz0, hz1, hz2⟩ := info_parts infoEntry
  have hf := run_firstCells_some (P := Try.prog) w 2 xs.length q sLen sCap (enCells xs) (enCells_len xs) hsrc
  have hst := run_storeCells_cells (P := Try.prog) g o (enCells xs) 0 w (fun j hj => by rw [enCells_len] at hj; exact (hd j hj).1) (fun j hj => by rw [enCells_len] at hj; exact (hd j hj).2) (enCells_one xs)
  simp only [Nat.add_zero] at hst
  have hf' := hf
  rw [hn] at hf'
  simp [Builtin.copy_, run_underlying Try.underlying22, sizeOf, typeInfo, hi, hz1, Builtin.lenOf, hf', hst, hn]
/-- Where entries that lie are read from. -/
theorem en_src {w : World} {b off : Nat} {l : Ents} (h : EnAt w (some ⟨b, off, none⟩) l) : ∀ j u, (enCells l)[j]? = some u → w.cell? ((⟨b, off, none⟩ : Addr).add j) = some u := h.cells
def zE : ByteArray × Int := (⟨#[]⟩, 0)
theorem zeros_cells (k : Nat) : (Builtin.zeroCells (Value.agg #[.string ⟨#[]⟩, .int .u32 0]).cells k).toList = enCells (List.replicate k zE) := by
  have hc : (Value.agg #[.string ⟨#[]⟩, .int .u32 0]).cells = #[.string ⟨#[]⟩, .int .u32 0] := by kernel_rfl
  rw [hc]
  unfold Builtin.zeroCells
  apply List.ext_getElem
  · simp [enCells_len]
  · intro i h1 h2
    have hi : i < k * 2 := by simpa using h1
    obtain ⟨g0, g1⟩ := enCells_get (List.replicate k zE) (i / 2) (by simp; omega)
    rw [List.getElem_replicate] at g0 g1
    rcases Nat.mod_two_eq_zero_or_one i with e | e
    · rw [show i / 2 * 2 = i from by omega] at g0
      rw [List.getElem?_eq_getElem h2] at g0
      rw [Option.some.inj g0]
      simp [e, zE]
    · rw [show i / 2 * 2 + 1 = i from by omega] at g1
      rw [List.getElem?_eq_getElem h2] at g1
      rw [Option.some.inj g1]
      simp [e, zE]
end Go.Proofs.Ytdjpmgkcgpkkmaa
