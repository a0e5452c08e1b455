/- Layer 13: the paths at which two trees differ. -/
import Derived.Test.YtbhfbdcmamodcaaGreatDoorL20
import Derived.Test.YtbhfbdcmamodcaaGreatDoorL02
import Derived.Maps.AppendAt
import Derived.Laws.AppendOwnNone
set_option linter.unusedVariables false
set_option linter.unusedSimpArgs false
namespace Go.Proofs.YtbhfbdcmamodcaaGreatDoor
open Go.RowKit TrMath
def pathsL (L : List (ByteArray × Int × Int)) : List ByteArray := L.map (·.1)
theorem paths_short {a b : Ents} (ha : TrMath.Good a) (hb : TrMath.Good b) : ∀ p ∈ pathsL (diffL a b), p.size ≤ maxLen := fun p hp => by
  obtain ⟨c, hc, rfl⟩ := List.mem_map.1 hp
  rcases diff_path a b c hc with ⟨e, he, k⟩ | ⟨e, he, k⟩
  · have := ha.short e he
    rw [k] at this
    unfold maxLen; omega
  · have := hb.short e he
    rw [k] at this
    unfold maxLen; omega
theorem paths_len (L : List (ByteArray × Int × Int)) : (pathsL L).length = L.length := by simp [pathsL]
theorem paths_take {L : List (ByteArray × Int × Int)} {k : Nat} (h : k < L.length) {p : ByteArray} {x y : Int} (e : L[k] = (p, x, y)) : (pathsL L).take (k + 1) = (pathsL L).take k ++ [p] := by
  have hk : k < (pathsL L).length := by rw [paths_len]; exact h
  rw [List.take_succ_eq_append_getElem hk]
  simp [pathsL, e]
theorem cells_one' (W : World) (v : Value) (t : TypeId) {H : Nat} (h : W.heap.size = H) : ∀ (j : Nat) u, [v][j]? = some u → (W.alloc (.cells #[v] t)).cell? ((⟨H, 0, none⟩ : Addr).add j) = some u := by
  subst h; exact cells_one W v t
def OwnS (w : World) (B : Nat) (v : Value) (l : List ByteArray) : Prop := w.ownsRow B 9 1 v l.length (strsV l)
theorem OwnS.nil (w : World) (B : Nat) : OwnS w B (.slice none 0 0) [] := World.ownsRow_nil _ _ _ _
theorem OwnS.below {w w' : World} {B : Nat} {v : Value} {l : List ByteArray} (h : OwnS w B v l) (hb : Below w.heap.size w w') : OwnS w' B v l := own_bel h hb
theorem OwnS.lt {w : World} {B : Nat} {v : Value} {l : List ByteArray} (h : OwnS w B v l) : ∀ k, v.ownBlock = some k → B ≤ k ∧ k < w.heap.size := World.ownsRow.lt h
theorem OwnS.push {w1 : World} {B n : Nat} {v1 : Value} {l : List ByteArray} {p : ByteArray} (h : w1.ownsRow B 9 1 v1 (n + 1) (strsV l ++ [.string p])) (hn : l.length = n) : OwnS w1 B v1 (l ++ [p]) := by
  subst hn
  unfold OwnS
  rw [List.length_append, strsV_append]
  exact h
theorem OwnS.nb {w w' : World} {B n : Nat} {v : Value} {l : List ByteArray} (h : OwnS w B v l) (hn : l.length = n) (hb : Below w.heap.size w w') : w'.ownsRow B 9 1 v n (strsV l) := by
  subst hn
  exact h.below hb
theorem OwnS.sl {w : World} {B : Nat} {v : Value} {l : List ByteArray} (h : OwnS w B v l) (hz : ∀ s ∈ l, s.size ≤ maxLen) : ∃ a c, v = .slice a l.length c ∧ StrsAt w a l := by
  rcases h.2 with ⟨h1, h2⟩ | ⟨g, cap, cur, hvv, hgB, r⟩
  · exact ⟨none, 0, by rw [h1, h2], fun i hi => by omega⟩
  · subst hvv
    exact ⟨_, _, rfl, strs_own h hz⟩
end Go.Proofs.YtbhfbdcmamodcaaGreatDoor
