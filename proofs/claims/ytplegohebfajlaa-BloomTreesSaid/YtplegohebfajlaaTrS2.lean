/- Walks of layer 8: a stable sort of a few entries. -/
import Derived.Test.YtplegohebfajlaaTrS1
import Derived.Test.YtplegohebfajlaaTrSMath
set_option linter.unusedVariables false
set_option linter.unusedSimpArgs false
namespace Go.Proofs.Ytplegohebfajlaa
open Go.RowKit TrMath Go.Sort

theorem ltOf_cfE : ltOf cfE = ltE := by
  funext x y
  unfold ltOf ltE cfE
  have := cmpP_lt x.1 y.1
  cases h : ltB x.1 y.1
  · rw [h] at this; simp at this; simp; omega
  · rw [h] at this; simp at this; simp; omega
theorem sw_grown {w wr : World} {g : Nat} {d : Array (ByteArray × Int)} (h : SW w g d wr) : w.grownBy wr (some g) := by
  obtain ⟨n, os, rfl⟩ := h
  unfold sortWorldK putRowK putRow mapBlock grow Sort.ahead
  refine ⟨rfl, rfl, rfl, by simp, fun k hk hn => ?_⟩
  have hne : k ≠ g := fun e => hn (by rw [e])
  simp only [Array.getElem?_append]
  rw [if_pos (by simpa using hk)]
  simp [Array.getElem?_modify, Ne.symm hne]
theorem sw_holds {w wr : World} {g : Nat} {d0 d : Array (ByteArray × Int)} (hH : HoldsK encE 2 w g 0 d0) (hs : d.size = d0.size) (hg : g < w.heap.size) (h : SW w g d wr) : HoldsK encE 2 wr g 0 d := by
  obtain ⟨n, os, rfl⟩ := h
  exact holdsK_sortWorldK_c encE 2 w g 0 d0 d n os hH hg hs
theorem holds_at {w : World} {g : Nat} {d : Array (ByteArray × Int)} (h : HoldsK encE 2 w g 0 d) (hg : g < w.heap.size) : EnAt w (some ⟨g, 0, none⟩) d.toList := by
  intro i hi
  have hi' : i < d.size := by simpa using hi
  have h1 := (HoldsK.cell h hi' (c := 0) (by omega)).1
  have h2 := (HoldsK.cell h hi' (c := 1) (by omega)).1
  rw [get_toList hi'] at h1 h2
  exact ⟨g, 0, rfl, hg, by rw [Nat.add_zero] at h1; exact h1, h2⟩
theorem own_holds {w : World} {B g cap : Nat} {l : List (ByteArray × Int)} (h : OwnB w B g cap l) : HoldsK encE 2 w g 0 l.toArray := by
  intro j hj
  have hj' : j < l.length * 2 := by simpa using hj
  have hd : j / 2 < l.length := by omega
  rw [get_flatK _ _ _ _ (by simpa using hj')]
  have hx : l.toArray[j / 2]! = l[j / 2] := by rw [get_toList (by simpa using hd)]
  rw [hx]
  obtain ⟨b, off, h1, _, h2, h3⟩ := h.at (j / 2) hd
  cases h1
  obtain ⟨cur, hB, hh, _⟩ := h
  refine ⟨?_, by simp [World.frozen?, hh]⟩
  rcases Nat.mod_two_eq_zero_or_one j with e | e
  · rw [e, show 0 + j = 0 + j / 2 * 2 from by omega, h2]; rfl
  · rw [e, show 0 + j = 0 + j / 2 * 2 + 1 from by omega, h3]; rfl

/-- What is asked of a sort: the same entries, ascending, those of one path in the order in which they stood. -/
def Sorted (v : Value) (l : List (ByteArray × Int)) (w w' : World) : Prop := ∀ a c, v = .slice a l.length c → ∃ m, Stb l m ∧ Srt m ∧ EnAt w' a m ∧ w.grownBy w' v.ownBlock
theorem srt_ins (l : List (ByteArray × Int)) : Srt (insertionSort ltE l.toArray 0 l.toArray.size).toList := by
  have h := (insertionSort_holds swoE l.toArray 0 l.toArray.size (Nat.zero_le _) (Nat.le_refl _))
  have hs : (insertionSort ltE l.toArray 0 l.toArray.size).size = l.toArray.size := h.1.1
  refine srt_of ?_
  rw [hs]
  exact h.2
end Go.Proofs.Ytplegohebfajlaa
