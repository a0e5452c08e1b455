/- Layer 8, plain law: two runs of entries merged in place. -/
import Derived.Test.YtdjpmgkcgpkkmaaTrS2
set_option linter.unusedVariables false
set_option linter.unusedSimpArgs false
namespace Go.Proofs.Ytdjpmgkcgpkkmaa.TrMath
open Go.Sort

abbrev Arr := Array (ByteArray × Int)
/-- So many entries of two places exchanged. -/
def swpN (a b : Nat) : Nat → Arr → Arr
  | 0, d => d
  | i + 1, d => swp (swpN a b i d) (a + i) (b + i)
theorem swpN_size (a b : Nat) : ∀ (n : Nat) (d : Arr), (swpN a b n d).size = d.size
  | 0, _ => rfl
  | n + 1, d => by rw [swpN, Sort.swp_size, swpN_size a b n d]
theorem swpN_get {a b : Nat} : ∀ (n : Nat) (d : Arr), a + n ≤ b → b + n ≤ d.size → ∀ k, (swpN a b n d)[k]! = if a ≤ k ∧ k < a + n then d[k + (b - a)]! else if b ≤ k ∧ k < b + n then d[k - (b - a)]! else d[k]!
  | 0, d, _, _, k => by
    rw [swpN, if_neg (by omega), if_neg (by omega)]
  | n + 1, d, h1, h2, k => by
    have ih := swpN_get n d (a := a) (b := b) (by omega) (by omega)
    have hs := swpN_size a b n d
    rw [swpN, swp_get _ (by rw [hs]; omega) (by rw [hs]; omega), ih (a + n), ih (b + n), ih k]
    by_cases c1 : k = b + n
    · subst c1
      rw [if_pos rfl, if_neg (by omega), if_neg (by omega), if_neg (by omega), if_pos (by omega), show b + n - (b - a) = a + n from by omega]
    · rw [if_neg c1]
      by_cases c2 : k = a + n
      · subst c2
        rw [if_pos rfl, if_neg (by omega), if_neg (by omega), if_pos (by omega), show a + n + (b - a) = b + n from by omega]
      · rw [if_neg c2]
        by_cases c3 : a ≤ k ∧ k < a + n
        · rw [if_pos c3, if_pos (by omega)]
        · by_cases c4 : b ≤ k ∧ k < b + n
          · rw [if_neg c3, if_pos c4, if_neg (by omega), if_pos (by omega)]
          · rw [if_neg c3, if_neg c4, if_neg (by omega), if_neg (by omega)]
/-- What stood at a .. m and at m .. b has changed places. -/
structure IsRot (a m b : Nat) (d e : Arr) : Prop where
  size : e.size = d.size
  lo : ∀ k, k < a → e[k]! = d[k]!
  hi : ∀ k, b ≤ k → e[k]! = d[k]!
  fst : ∀ k, a ≤ k → k < a + (b - m) → e[k]! = d[k + (m - a)]!
  snd : ∀ k, a + (b - m) ≤ k → k < b → e[k]! = d[k - (b - m)]!
theorem IsRot.none1 {m b : Nat} (d : Arr) (h : m ≤ b) : IsRot m m b d d :=
  ⟨rfl, fun _ _ => rfl, fun _ _ => rfl, fun k _ _ => by rw [Nat.sub_self, Nat.add_zero], fun k h1 h2 => by omega⟩
theorem IsRot.none2 {a m : Nat} (d : Arr) (h : a ≤ m) : IsRot a m m d d :=
  ⟨rfl, fun _ _ => rfl, fun _ _ => rfl, fun k h1 h2 => by omega, fun k _ _ => by rw [Nat.sub_self, Nat.sub_zero]⟩
/-- The first block is the longer one: its head changes places with the second block. -/
theorem rot_gt {m i j : Nat} {d e : Arr} (hj : 0 < j) (hij : j < i) (him : i ≤ m) (hb : m + j ≤ d.size) (h : IsRot (m - (i - j)) m (m + j) (swpN (m - i) m j d) e) : IsRot (m - i) m (m + j) d e := by
  have g := swpN_get (a := m - i) (b := m) j d (by omega) hb
  refine ⟨by rw [h.size, swpN_size], fun k hk => ?_, fun k hk => ?_, fun k h1 h2 => ?_, fun k h1 h2 => ?_⟩
  · rw [h.lo k (by omega), g, if_neg (by omega), if_neg (by omega)]
  · rw [h.hi k hk, g, if_neg (by omega), if_neg (by omega)]
  · rw [h.lo k (by omega), g, if_pos (by omega)]
  · by_cases c : k < m - (i - j) + (m + j - m)
    · rw [h.fst k (by omega) c, g, if_neg (by omega), if_pos (by omega), show k + (m - (m - (i - j))) - (m - (m - i)) = k - (m + j - m) from by omega]
    · rw [h.snd k (by omega) h2, g, if_neg (by omega), if_neg (by omega)]
/-- The second block is the longer one: its end changes places with the first block. -/
theorem rot_lt {m i j : Nat} {d e : Arr} (hi : 0 < i) (hij : i < j) (him : i ≤ m) (hb : m + j ≤ d.size) (h : IsRot (m - i) m (m + (j - i)) (swpN (m - i) (m + j - i) i d) e) : IsRot (m - i) m (m + j) d e := by
  have g := swpN_get (a := m - i) (b := m + j - i) i d (by omega) (by omega)
  refine ⟨by rw [h.size, swpN_size], fun k hk => ?_, fun k hk => ?_, fun k h1 h2 => ?_, fun k h1 h2 => ?_⟩
  · rw [h.lo k hk, g, if_neg (by omega), if_neg (by omega)]
  · rw [h.hi k (by omega), g, if_neg (by omega), if_neg (by omega)]
  · by_cases c : k < m - i + (m + (j - i) - m)
    · rw [h.fst k h1 c, g]
      by_cases c2 : k + (m - (m - i)) < m - i + i
      · omega
      · rw [if_neg (by omega), if_neg (by omega)]
    · rw [h.snd k (by omega) (by omega), g, if_pos (by omega), show k - (m + (j - i) - m) + (m + j - i - (m - i)) = k + (m - (m - i)) from by omega]
  · rw [h.hi k (by omega), g, if_neg (by omega), if_pos (by omega), show k - (m + j - i - (m - i)) = k - (m + j - m) from by omega]
theorem rot_eq {m i : Nat} {d : Arr} (him : i ≤ m) (hb : m + i ≤ d.size) : IsRot (m - i) m (m + i) d (swpN (m - i) m i d) := by
  have g := swpN_get (a := m - i) (b := m) i d (by omega) hb
  refine ⟨swpN_size _ _ _ _, fun k hk => ?_, fun k hk => ?_, fun k h1 h2 => ?_, fun k h1 h2 => ?_⟩
  · rw [g, if_neg (by omega), if_neg (by omega)]
  · rw [g, if_neg (by omega), if_neg (by omega)]
  · rw [g, if_pos (by omega)]
  · rw [g, if_neg (by omega), if_pos (by omega), show k - (m - (m - i)) = k - (m + i - m) from by omega]
/-- One entry goes up by one place more. -/
theorem rot_up {a k : Nat} {d e : Arr} (h : IsRot a (a + 1) (k + 1) d e) (hak : a ≤ k) (hk : k + 1 < d.size) : IsRot a (a + 1) (k + 2) d (swp e k (k + 1)) := by
  have hs := h.size
  have g := fun q => swp_get e (i := k) (j := k + 1) (by omega) (by omega) q
  refine ⟨by rw [Sort.swp_size, hs], fun q hq => ?_, fun q hq => ?_, fun q h1 h2 => ?_, fun q h1 h2 => ?_⟩
  · rw [g, if_neg (by omega), if_neg (by omega), h.lo q hq]
  · rw [g, if_neg (by omega), if_neg (by omega), h.hi q (by omega)]
  · rw [g, if_neg (by omega)]
    by_cases c : q = k
    · rw [if_pos c, h.hi (k + 1) (by omega), c]; congr 1; omega
    · rw [if_neg c, h.fst q h1 (by omega)]
  · rw [g, if_pos (by omega), h.snd k (by omega) (by omega)]; congr 1; omega
/-- One entry goes down by one place more. -/
theorem rot_down {m k : Nat} {d e : Arr} (h : IsRot (k + 1) m (m + 1) d e) (hk : k < m) (hm : m < d.size) : IsRot k m (m + 1) d (swp e (k + 1) k) := by
  have hs := h.size
  have g := fun q => swp_get e (i := k + 1) (j := k) (by omega) (by omega) q
  refine ⟨by rw [Sort.swp_size, hs], fun q hq => ?_, fun q hq => ?_, fun q h1 h2 => ?_, fun q h1 h2 => ?_⟩
  · rw [g, if_neg (by omega), if_neg (by omega), h.lo q (by omega)]
  · rw [g, if_neg (by omega), if_neg (by omega), h.hi q hq]
  · obtain rfl : q = k := by omega
    rw [g, if_pos rfl, h.fst (q + 1) (by omega) (by omega)]; congr 1; omega
  · rw [g, if_neg (by omega)]
    by_cases c : q = k + 1
    · rw [if_pos c, h.lo k (by omega), c]; congr 1; omega
    · rw [if_neg c, h.snd q (by omega) h2]
/-- The effect of a step between a and b. -/
structure Eff (a b : Nat) (d e : Arr) : Prop where
  size : e.size = d.size
  stb : Stb d.toList e.toList
  out : ∀ k, k < a ∨ b ≤ k → e[k]! = d[k]!
  cont : ∀ k, a ≤ k → k < b → ∃ q, a ≤ q ∧ q < b ∧ e[k]! = d[q]!
theorem Eff.refl (a b : Nat) (d : Arr) : Eff a b d d := ⟨rfl, Stb.refl _, fun _ _ => rfl, fun k h1 h2 => ⟨k, h1, h2, rfl⟩⟩
theorem Eff.trans {a b : Nat} {d e f : Arr} (h : Eff a b d e) (k : Eff a b e f) : Eff a b d f :=
  ⟨k.size.trans h.size, h.stb.trans k.stb, fun q hq => (k.out q hq).trans (h.out q hq), fun q h1 h2 => by
    obtain ⟨r, r1, r2, r3⟩ := k.cont q h1 h2
    obtain ⟨s, s1, s2, s3⟩ := h.cont r r1 r2
    exact ⟨s, s1, s2, r3.trans s3⟩⟩
theorem Eff.wide {a b p q : Nat} {d e : Arr} (h : Eff a b d e) (hp : p ≤ a) (hq : b ≤ q) : Eff p q d e :=
  ⟨h.size, h.stb, fun k hk => h.out k (by omega), fun k h1 h2 => by
    by_cases c : a ≤ k ∧ k < b
    · obtain ⟨r, r1, r2, r3⟩ := h.cont k c.1 c.2
      exact ⟨r, by omega, by omega, r3⟩
    · exact ⟨k, h1, h2, h.out k (by omega)⟩⟩
theorem get_bang {d : Arr} {k : Nat} (h : k < d.toList.length) : d[k]! = d.toList[k] := get_toList (by simpa using h)
theorem rot_lists {a m b : Nat} {d e : Arr} (h : IsRot a m b d e) (ham : a ≤ m) (hmb : m ≤ b) (hb : b ≤ d.size) :
    ∃ X U V Y, d.toList = X ++ (U ++ (V ++ Y)) ∧ e.toList = X ++ (V ++ (U ++ Y)) ∧ (∀ u ∈ U, ∃ q, a ≤ q ∧ q < m ∧ d[q]! = u) ∧ (∀ v ∈ V, ∃ q, m ≤ q ∧ q < b ∧ d[q]! = v) := by
  have hl : d.toList.length = d.size := by simp
  have he : e.toList.length = d.size := by simp [h.size]
  refine ⟨d.toList.take a, (d.toList.drop a).take (m - a), (d.toList.drop m).take (b - m), d.toList.drop b, ?_, ?_, ?_, ?_⟩
  · apply List.ext_getElem
    · simp; omega
    · intro k h1 h2
      simp only [List.getElem_append, List.length_take, List.length_drop, List.getElem_take, List.getElem_drop, hl]
      repeat' split
      all_goals first | rfl | (congr 1; omega)
  · apply List.ext_getElem
    · simp [h.size]; omega
    · intro k h1 h2
      have hk : k < d.size := by omega
      rw [← get_bang h1]
      simp only [List.getElem_append, List.length_take, List.length_drop, List.getElem_take, List.getElem_drop, hl]
      split
      · rw [h.lo k (by omega), get_bang (by omega)]
      · split
        · rw [h.fst k (by omega) (by omega), get_bang (by omega)]; congr 1; omega
        · split
          · rw [h.snd k (by omega) (by omega), get_bang (by omega)]; congr 1; omega
          · rw [h.hi k (by omega), get_bang (by omega)]; congr 1; omega
  · intro u hu
    obtain ⟨i, hi, rfl⟩ := List.mem_iff_getElem.1 hu
    simp only [List.length_take, List.length_drop, hl] at hi
    refine ⟨a + i, by omega, by omega, ?_⟩
    rw [get_bang (by omega)]
    simp only [List.getElem_take, List.getElem_drop]
  · intro v hv
    obtain ⟨i, hi, rfl⟩ := List.mem_iff_getElem.1 hv
    simp only [List.length_take, List.length_drop, hl] at hi
    refine ⟨m + i, by omega, by omega, ?_⟩
    rw [get_bang (by omega)]
    simp only [List.getElem_take, List.getElem_drop]
theorem rot_eff {a m b : Nat} {d e : Arr} (h : IsRot a m b d e) (ham : a ≤ m) (hmb : m ≤ b) (hb : b ≤ d.size) (hlt : ∀ i j, a ≤ i → i < m → m ≤ j → j < b → ltE d[j]! d[i]! = true) : Eff a b d e := by
  obtain ⟨X, U, V, Y, e1, e2, hU, hV⟩ := rot_lists h ham hmb hb
  refine ⟨h.size, ?_, fun k hk => ?_, fun k h1 h2 => ?_⟩
  · rw [e1, e2]
    refine Stb.blocks X U V Y fun u hu v hv k => ?_
    obtain ⟨p, p1, p2, rfl⟩ := hU u hu
    obtain ⟨q, q1, q2, rfl⟩ := hV v hv
    exact ltB_ne (hlt p q p1 p2 q1 q2) k.symm
  · rcases hk with hk | hk
    · exact h.lo k hk
    · exact h.hi k hk
  · by_cases c : k < a + (b - m)
    · exact ⟨_, by omega, by omega, h.fst k h1 c⟩
    · exact ⟨_, by omega, by omega, h.snd k (by omega) h2⟩
theorem sorted_join {a c b : Nat} {d : Arr} (h1 : SortedIn ltE a c d) (h2 : SortedIn ltE c b d) (h3 : ∀ i j, a ≤ i → i < c → c ≤ j → j < b → ltE d[j]! d[i]! = false) : SortedIn ltE a b d := fun i j hi hij hj => by
  by_cases c1 : j < c
  · exact h1 i j hi hij c1
  · by_cases c2 : i < c
    · exact h3 i j hi c2 (by omega) hj
    · exact h2 i j (by omega) hij hj
theorem sorted_part {a b p q : Nat} {d : Arr} (h : SortedIn ltE a b d) (hp : a ≤ p) (hq : q ≤ b) : SortedIn ltE p q d := fun i j hi hij hj => h i j (by omega) hij (by omega)
theorem sorted_same {a b : Nat} {d e : Arr} (h : SortedIn ltE a b d) (k : ∀ q, a ≤ q → q < b → e[q]! = d[q]!) : SortedIn ltE a b e := fun i j hi hij hj => by
  rw [k i (by omega) (by omega), k j (by omega) hj]; exact h i j hi hij hj
theorem ltE_asym {x y : ByteArray × Int} (h : ltE x y = true) : ltE y x = false := ltB_asym h
/-- Behind the change of places: four runs, and what is on the left is not above what is on the right. -/
structure Halves (a s p e b : Nat) (f : Arr) : Prop where
  r1 : SortedIn ltE a s f
  r2 : SortedIn ltE s p f
  r3 : SortedIn ltE p e f
  r4 : SortedIn ltE e b f
  le : ∀ i j, a ≤ i → i < p → p ≤ j → j < b → ltE f[j]! f[i]! = false
theorem rot_halves {a s m e b : Nat} {d f : Arr} (h : IsRot s m e d f) (hA : SortedIn ltE a m d) (hB : SortedIn ltE m b d) (has : a ≤ s) (hsm : s ≤ m) (hme : m ≤ e) (heb : e ≤ b)
    (h1 : ∀ i j, a ≤ i → i < s → e ≤ j → j < b → ltE d[j]! d[i]! = false) (h2 : ∀ i j, s ≤ i → i < m → m ≤ j → j < e → ltE d[j]! d[i]! = true) : Halves a s (s + (e - m)) e b f := by
  refine ⟨fun i j hi hij hj => ?_, fun i j hi hij hj => ?_, fun i j hi hij hj => ?_, fun i j hi hij hj => ?_, fun i j hi hip hpj hj => ?_⟩
  · rw [h.lo i (by omega), h.lo j hj]; exact hA i j hi hij (by omega)
  · rw [h.fst i hi (by omega), h.fst j (by omega) hj]; exact hB _ _ (by omega) (by omega) (by omega)
  · rw [h.snd i hi (by omega), h.snd j (by omega) hj]; exact hA _ _ (by omega) (by omega) (by omega)
  · rw [h.hi i hi, h.hi j (by omega)]; exact hB _ _ (by omega) hij hj
  · by_cases c1 : i < s
    · rw [h.lo i c1]
      by_cases c2 : j < e
      · rw [h.snd j hpj c2]; exact hA _ _ hi (by omega) (by omega)
      · rw [h.hi j (by omega)]; exact h1 i j hi c1 (by omega) hj
    · rw [h.fst i (by omega) hip]
      by_cases c2 : j < e
      · rw [h.snd j hpj c2]; exact ltE_asym (h2 _ _ (by omega) (by omega) (by omega) (by omega))
      · rw [h.hi j (by omega)]; exact hB _ _ (by omega) (by omega) hj
/-- The two halves merged, each by itself. -/
theorem halves_join {a s p e b : Nat} {f g k : Arr} (h : Halves a s p e b f) (hap : a ≤ p) (hpb : p ≤ b) (e1 : Eff a p f g) (s1 : SortedIn ltE a p g) (e2 : Eff p b g k) (s2 : SortedIn ltE p b k) : Eff a b f k ∧ SortedIn ltE a b k := by
  refine ⟨(e1.wide (Nat.le_refl _) hpb).trans (e2.wide hap (Nat.le_refl _)), sorted_join (sorted_same s1 fun q h1 h2 => e2.out q (.inl h2)) s2 fun i j hi hip hpj hj => ?_⟩
  obtain ⟨q, q1, q2, q3⟩ := e1.cont i hi hip
  obtain ⟨r, r1, r2, r3⟩ := e2.cont j hpj hj
  rw [e2.out i (.inl hip), q3, r3, e1.out r (.inr r1)]
  exact h.le q r q1 q2 r1 r2
end Go.Proofs.Ytdjpmgkcgpkkmaa.TrMath
