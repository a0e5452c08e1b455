/- Layer 8, plain law: two runs of entries merged in place: what the searches find. -/
import Derived.Test.YtdjpmgkcgpkkmaaTrRot
set_option linter.unusedVariables false
set_option linter.unusedSimpArgs false
namespace Go.Proofs.Ytdjpmgkcgpkkmaa.TrMath
open Go.Sort

theorem nt {x y z : ByteArray × Int} (h : ltE y x = false) (k : ltE z y = false) : ltE z x = false := swoE.3 _ _ _ k h
theorem irr (x : ByteArray × Int) : ltE x x = false := swoE.1 x
theorem chain {a b : Nat} {d : Arr} (h : SortedIn ltE a b d) {i j : Nat} (hi : a ≤ i) (hij : i ≤ j) (hj : j < b) : ltE d[j]! d[i]! = false := by
  by_cases c : i = j
  · rw [c]; exact irr _
  · exact h i j hi (by omega) hj
theorem below_lt {x y u v : ByteArray × Int} (h : ltE u v = true) (h1 : ltE u y = false) (h2 : ltE x v = false) : ltE y x = true := by
  cases c : ltE y x with
  | true => rfl
  | false =>
    have := nt h2 (nt c h1)
    rw [h] at this
    cases this
/-- One entry ahead of a run. -/
theorem done1 {a i b : Nat} {d e : Arr} (hB : SortedIn ltE (a + 1) b d) (hi : a + 1 ≤ i) (hib : i ≤ b) (hb : b ≤ d.size) (h1 : i = a + 1 ∨ ltE d[i - 1]! d[a]! = true) (h2 : i = b ∨ ltE d[i]! d[a]! = false) (h : IsRot a (a + 1) i d e) : Eff a b d e ∧ SortedIn ltE a b e := by
  have hA : SortedIn ltE a (a + 1) d := fun p q h1 h2 h3 => by omega
  have hlt : ∀ p q, a ≤ p → p < a + 1 → a + 1 ≤ q → q < i → ltE d[q]! d[p]! = true := fun p q p1 p2 q1 q2 => by
    obtain rfl : p = a := by omega
    rcases h1 with h1 | h1
    · omega
    · exact below_lt h1 (chain hB q1 (by omega) (by omega)) (irr _)
  have hh := rot_halves h hA hB (Nat.le_refl _) (by omega) hi hib (fun p q p1 p2 => by omega) hlt
  refine ⟨(rot_eff h (by omega) hi (by omega) hlt).wide (Nat.le_refl _) hib, sorted_join hh.r2 (sorted_join hh.r3 hh.r4 fun p q p1 p2 q1 q2 => ?_) hh.le⟩
  rw [h.snd p (by omega) p2, h.hi q q1, show p - (i - (a + 1)) = a from by omega]
  rcases h2 with h2 | h2
  · omega
  · exact nt h2 (chain hB (by omega) q1 q2)
/-- One entry behind a run. -/
theorem done2 {a i m : Nat} {d e : Arr} (hA : SortedIn ltE a m d) (hi : a ≤ i) (him : i ≤ m) (hm : m < d.size) (h1 : i = a ∨ ltE d[m]! d[i - 1]! = false) (h2 : i = m ∨ ltE d[m]! d[i]! = true) (h : IsRot i m (m + 1) d e) : Eff a (m + 1) d e ∧ SortedIn ltE a (m + 1) e := by
  have hB : SortedIn ltE m (m + 1) d := fun p q h1 h2 h3 => by omega
  have hlt : ∀ p q, i ≤ p → p < m → m ≤ q → q < m + 1 → ltE d[q]! d[p]! = true := fun p q p1 p2 q1 q2 => by
    obtain rfl : q = m := by omega
    rcases h2 with h2 | h2
    · omega
    · exact below_lt h2 (irr _) (chain hA hi p1 p2)
  have hh := rot_halves h hA hB hi him (by omega) (Nat.le_refl _) (fun p q p1 p2 q1 q2 => by omega) hlt
  refine ⟨(rot_eff h him (by omega) (by omega) hlt).wide hi (Nat.le_refl _), sorted_join (sorted_join hh.r1 hh.r2 fun p q p1 p2 q1 q2 => ?_) hh.r3 hh.le⟩
  rw [h.lo p p2, h.fst q q1 (by omega), show q + (m - i) = m from by omega]
  rcases h1 with h1 | h1
  · omega
  · exact nt (chain hA p1 (by omega) (by omega)) h1
/-- Where the search for the middle stands. -/
structure Mid (a m b c lo hi s r : Nat) (d : Arr) : Prop where
  lo_s : lo ≤ s
  s_r : s ≤ r
  r_hi : r ≤ hi
  at_s : s = lo ∨ ltE d[c + m - s]! d[s - 1]! = false
  at_r : r = hi ∨ ltE d[c + m - 1 - r]! d[r]! = true
theorem mid_halves {a m b c lo hi s : Nat} {d f : Arr} (hA : SortedIn ltE a m d) (hB : SortedIn ltE m b d) (ham : a < m) (hmb : m < b) (hc : c = (a + b) / 2)
    (hlo : (m > c ∧ lo = c + m - b ∧ hi = c) ∨ (m ≤ c ∧ lo = a ∧ hi = m)) (h : Mid a m b c lo hi s s d) (hr : IsRot s m (c + m - s) d f) (hb : b ≤ d.size) :
    Halves a s c (c + m - s) b f ∧ Eff a b d f := by
  obtain ⟨l1, _, l3, l4, l5⟩ := h
  have has : a ≤ s := by omega
  have hsm : s ≤ m := by omega
  have hme : m ≤ c + m - s := by omega
  have heb : c + m - s ≤ b := by omega
  have hsc : s ≤ c := by omega
  have k1 : ∀ i j, a ≤ i → i < s → c + m - s ≤ j → j < b → ltE d[j]! d[i]! = false := fun i j i1 i2 j1 j2 => by
    rcases l4 with l4 | l4
    · omega
    · exact nt (chain hA i1 (by omega) (by omega)) (nt l4 (chain hB hme j1 j2))
  have k2 : ∀ i j, s ≤ i → i < m → m ≤ j → j < c + m - s → ltE d[j]! d[i]! = true := fun i j i1 i2 j1 j2 => by
    rcases l5 with l5 | l5
    · omega
    · exact below_lt l5 (chain hB j1 (by omega) (by omega)) (chain hA has i1 i2)
  have hh := rot_halves hr hA hB has hsm hme heb k1 k2
  rw [show s + (c + m - s - m) = c from by omega] at hh
  exact ⟨hh, (rot_eff hr hsm hme (by omega) k2).wide has heb⟩
end Go.Proofs.Ytdjpmgkcgpkkmaa.TrMath
