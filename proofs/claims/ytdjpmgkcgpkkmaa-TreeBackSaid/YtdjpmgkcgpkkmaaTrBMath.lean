/- Plain law of layer 8: a tree's bytes, there and back. -/
import Derived.Test.YtdjpmgkcgpkkmaaTrEn
import Derived.Test.YtdjpmgkcgpkkmaaTrDMath
import Derived.Test.YtdjpmgkcgpkkmaaNumMath
set_option linter.unusedVariables false
set_option linter.unusedSimpArgs false
namespace Go.Proofs.Ytdjpmgkcgpkkmaa
open PackMath TrMath

theorem alk_take : ∀ (a b : List UInt8), a.take (alk a b) = b.take (alk a b)
  | [], _ => by simp [alk]
  | _ :: _, [] => by simp [alk]
  | x :: a, y :: b => by
    unfold alk
    split
    · rename_i h
      rw [List.take_succ_cons, List.take_succ_cons, h, alk_take a b]
    · rfl
theorem ba_ext {p q : ByteArray} (h : kB p = kB q) : p = q := kB_inj h
theorem kB_append (p q : ByteArray) : kB (p ++ q) = kB p ++ kB q := by unfold kB; simp
theorem kB_extract (p : ByteArray) (a b : Nat) : kB (p.extract a b) = ((kB p).drop a).take (b - a) := extract_list p a b
theorem kB_len (p : ByteArray) : (kB p).length = p.size := rfl
/-- A path is what it shares with the one ahead of it, and the rest. -/
theorem path_back (last p : ByteArray) : last.extract 0 (alkB last p) ++ ⟨((kB p).drop (alkB last p)).toArray⟩ = p := by
  apply ba_ext
  rw [kB_append, kB_extract]
  show ((kB last).drop 0).take (alkB last p - 0) ++ (kB p).drop (alkB last p) = kB p
  rw [List.drop_zero, Nat.sub_zero]
  unfold alkB
  rw [alk_take, List.take_append_drop]

/-- The bytes of entries behind a path. -/
def encFrom (last : ByteArray) : Ents → List UInt8
  | [] => []
  | e :: r => encE1 last e.1 e.2.toNat ++ encFrom e.1 r
/-- Entries that may stand behind a path. -/
def OkFrom (first : Bool) (last : ByteArray) : Ents → Prop
  | [] => True
  | e :: r => e.1.size ≤ 255 ∧ 0 < e.2 ∧ e.2 < 4294967296 ∧ (first = true ∨ ltB last e.1 = true) ∧ OkFrom false e.1 r
theorem raw_at {s : ByteArray} {pre l post : List UInt8} {k : Nat} (h : s.data.toList = pre ++ (l ++ post)) (hk : pre.length = k) : rawR s k 0 l.length = ((⟨l.toArray⟩, 0), (k + l.length, 0)) := by
  have hl := congrArg List.length h
  rw [size_list, List.length_append, List.length_append] at hl
  rw [rawR_ok (by omega)]
  have e : s.extract k (k + l.length) = ⟨l.toArray⟩ := by
    apply ba_ext
    rw [kB_extract]
    show (s.data.toList.drop k).take (k + l.length - k) = l
    rw [drop_pre h hk, Nat.add_sub_cancel_left, List.take_left]
  rw [e]
section
variable {s : ByteArray} {first : Bool} {last p : ByteArray} {x : Nat} {pre post : List UInt8} {a : Nat}
/-- What stands ahead of the blob. -/
def encH (last p : ByteArray) : List UInt8 := be (alkB last p) 1 ++ (be (p.size - alkB last p) 1 ++ (kB p).drop (alkB last p))
theorem encE1_H (last p : ByteArray) (x : Nat) : encE1 last p x = encH last p ++ be x 4 := by unfold encE1 encH; simp [List.append_assoc]
theorem encH_len (last p : ByteArray) : (encH last p).length = 2 + (p.size - alkB last p) := by
  unfold encH
  rw [List.length_append, List.length_append, be_length, be_length, List.length_drop, kB_len]; omega
theorem head_at (h : s.data.toList = pre ++ (encH last p ++ post)) (hk : pre.length = a) (hp : p.size ≤ 255) :
    ∃ a1 a2, numR s a 0 1 = ((alkB last p, 0), (a1, 0)) ∧ numR s a1 0 1 = ((p.size - alkB last p, 0), (a2, 0)) ∧ rawR s a2 0 ((p.size - alkB last p : Nat) : Int) = ((⟨((kB p).drop (alkB last p)).toArray⟩, 0), (a + (encH last p).length, 0)) := by
  have hal := (alkB_le last p).2
  unfold encH at h
  simp only [List.append_assoc] at h
  have h1 := numR_at h hk (by omega : alkB last p < 256 ^ 1)
  rw [← List.append_assoc] at h
  have h2 := numR_at h (k := a + 1) (by rw [List.length_append, be_length, hk]) (by omega : p.size - alkB last p < 256 ^ 1)
  rw [← List.append_assoc] at h
  have h3 := raw_at h (k := a + 1 + 1) (by rw [List.length_append, List.length_append, be_length, be_length, hk])
  have hl : ((kB p).drop (alkB last p)).length = p.size - alkB last p := by rw [List.length_drop, kB_len]
  rw [hl] at h3
  refine ⟨_, _, h1, h2, ?_⟩
  rw [h3, encH_len]
  congr 2
  omega
theorem ent_no (hn : ¬ last.size < alkB last p) (hp : p.size ≤ 255) (ho : first = true ∨ ltB last p = true) :
    ¬ (255 < (last.extract 0 (alkB last p) ++ ⟨((kB p).drop (alkB last p)).toArray⟩).size ∨ alkB last (last.extract 0 (alkB last p) ++ ⟨((kB p).drop (alkB last p)).toArray⟩) ≠ alkB last p ∨ (first = false ∧ ltB last (last.extract 0 (alkB last p) ++ ⟨((kB p).drop (alkB last p)).toArray⟩) = false)) := by
  rw [path_back]
  rintro (h | h | ⟨h1, h2⟩)
  · omega
  · exact h rfl
  · rcases ho with h | h
    · rw [h1] at h; exact absurd h (by decide)
    · rw [h2] at h; exact absurd h (by decide)
theorem ent_fwd (h : s.data.toList = pre ++ (encE1 last p x ++ post)) (hk : pre.length = a) (hp : p.size ≤ 255) (hx : x < 4294967296) (hx0 : x ≠ 0) (ho : first = true ∨ ltB last p = true) :
    entR s first last a 0 = (0, ((p, x), (a + (encE1 last p x).length, 0))) := by
  have hal := (alkB_le last p).1
  rw [encE1_H, List.append_assoc] at h
  obtain ⟨a1, a2, hN, hK, hR⟩ := head_at h hk hp
  rw [← List.append_assoc] at h
  have hB := numR_at h (k := a + (encH last p).length) (by rw [List.length_append, hk]) (by omega : x < 256 ^ 4)
  have := ent_6 (first := first) hN (by omega) hK hR rfl (ent_no (by omega) hp ho) hB rfl hx0
  rw [this, path_back, encE1_H, List.length_append, be_length, Nat.add_assoc]
theorem ent_cut (h : s.data.toList = pre ++ (encE1 last p x).dropLast) (hk : pre.length = a) (hp : p.size ≤ 255) (ho : first = true ∨ ltB last p = true) :
    (entR s first last a 0).1 = 2 := by
  have hal := (alkB_le last p).1
  have hd : (encE1 last p x).dropLast = encH last p ++ (be x 4).dropLast := by
    rw [encE1_H, List.dropLast_append_of_ne_nil (by intro e; have := congrArg List.length e; rw [be_length] at this; simp at this)]
  rw [hd] at h
  have hl := congrArg List.length h
  rw [size_list, List.length_append, List.length_append, List.length_dropLast, be_length] at hl
  obtain ⟨a1, a2, hN, hK, hR⟩ := head_at h hk hp
  have hB : numR s (a + (encH last p).length) 0 4 = ((0, 2), (a + (encH last p).length, 2)) := numR_short (by omega)
  exact ent_4 (first := first) hN (by omega) hK hR rfl (ent_no (by omega) hp ho) hB (by decide)
end
theorem encFrom_ne {last : ByteArray} {e : ByteArray × Int} {r : Ents} : encFrom last (e :: r) ≠ [] := by
  intro h
  have := congrArg List.length h
  rw [encFrom, List.length_append, encE1_len] at this
  simp at this
theorem decGo_fwd {s : ByteArray} : ∀ (l : Ents) (first : Bool) (last : ByteArray) (pre post : List UInt8) (a : Nat), OkFrom first last l → s.data.toList = pre ++ (encFrom last l ++ post) → pre.length = a →
    decGo s l.length first last a 0 = (endR s (a + (encFrom last l).length) 0, l) := by
  intro l
  induction l with
  | nil => intro first last pre post a _ _ _; rfl
  | cons e r ih =>
    intro first last pre post a ho h hk
    obtain ⟨h1, h2, h3, h4, h5⟩ := ho
    rw [encFrom, List.append_assoc] at h
    have he := ent_fwd h hk h1 (by omega) (by omega) h4
    rw [← List.append_assoc] at h
    have := ih false e.1 _ _ (a + (encE1 last e.1 e.2.toNat).length) h5 h (by rw [List.length_append, hk])
    rw [List.length_cons, decGo_ok he, this]
    refine Prod.ext ?_ ?_
    · show endR s _ 0 = endR s _ 0
      rw [encFrom, List.length_append, Nat.add_assoc]
    · show (e.1, ((e.2.toNat : Nat) : Int)) :: r = e :: r
      congr 1
      exact Prod.ext rfl (by show ((e.2.toNat : Nat) : Int) = e.2; omega)
theorem decGo_cut {s : ByteArray} : ∀ (l : Ents) (first : Bool) (last : ByteArray) (pre : List UInt8) (a : Nat), l ≠ [] → OkFrom first last l → s.data.toList = pre ++ (encFrom last l).dropLast → pre.length = a →
    (decGo s l.length first last a 0).1 = 2 := by
  intro l
  induction l with
  | nil => intro first last pre a hn; exact absurd rfl hn
  | cons e r ih =>
    intro first last pre a _ ho h hk
    obtain ⟨h1, h2, h3, h4, h5⟩ := ho
    cases r with
    | nil =>
      rw [encFrom, encFrom, List.append_nil] at h
      have := ent_cut (first := first) h hk h1 h4
      rw [List.length_cons, decGo_err this (by decide)]
    | cons e2 r2 =>
      rw [encFrom, List.dropLast_append_of_ne_nil encFrom_ne] at h
      have he := ent_fwd h hk h1 (by omega) (by omega) h4
      rw [← List.append_assoc] at h
      have := ih false e.1 _ (a + (encE1 last e.1 e.2.toNat).length) (by simp) h5 h (by rw [List.length_append, hk])
      rw [List.length_cons, decGo_ok he, this]
theorem encGo_take (l : Ents) : ∀ k, k ≤ l.length → encGo l k = be l.length 2 ++ encFrom ⟨#[]⟩ (l.take k) := by
  have snoc : ∀ (m : Ents) (last : ByteArray) (e : ByteArray × Int), encFrom last (m ++ [e]) = encFrom last m ++ encE1 (match m.getLast? with | some q => q.1 | none => last) e.1 e.2.toNat := by
    intro m
    induction m with
    | nil => intro last e; simp [encFrom]
    | cons q r ih =>
      intro last e
      rw [List.cons_append, encFrom, ih, encFrom, List.append_assoc]
      congr 3
      rw [List.getLast?_cons]
      cases r.getLast? <;> rfl
  intro k
  induction k with
  | zero => intro _; rw [encGo, List.take_zero, encFrom, List.append_nil]
  | succ k ih =>
    intro hk
    have hk' : k < l.length := by omega
    rw [encGo, List.getElem?_eq_getElem hk', ih (by omega), List.take_succ_eq_append_getElem hk', snoc, List.append_assoc]
    congr 2
    show encE1 _ _ _ = encE1 _ _ _
    congr 1
    unfold lastP
    cases k with
    | zero => rfl
    | succ j =>
      rw [if_neg (by omega), Nat.add_sub_cancel, List.getElem?_eq_getElem (by omega), List.getLast?_take, if_neg (by omega), Nat.add_sub_cancel, List.getElem?_eq_getElem (by omega)]
      rfl
theorem encGo_all (l : Ents) : encGo l l.length = be l.length 2 ++ encFrom ⟨#[]⟩ l := by
  rw [encGo_take l _ (Nat.le_refl _), List.take_of_length_le (Nat.le_refl _)]
theorem ok_good {l : Ents} (h : TrMath.Good l) (hw : ∀ e ∈ l, 0 ≤ e.2 ∧ e.2 < 4294967296) : OkFrom true ⟨#[]⟩ l := by
  have gen : ∀ (l : Ents) (first : Bool) (last : ByteArray), TrMath.Good l → (∀ e ∈ l, 0 ≤ e.2 ∧ e.2 < 4294967296) → (first = true ∨ ∀ e ∈ l, ltB last e.1 = true) → OkFrom first last l := by
    intro l
    induction l with
    | nil => intro _ _ _ _ _; trivial
    | cons e r ih =>
      intro first last hg hw ho
      obtain ⟨ha, hr⟩ := List.pairwise_cons.1 hg.asc
      have hn := hg.nz e (by simp)
      have hwe := hw e (by simp)
      refine ⟨hg.short e (by simp), by omega, hwe.2, ho.imp id (fun h => h e (by simp)), ih false e.1 ⟨hr, fun x hx => hg.nz x (by simp [hx]), fun x hx => hg.short x (by simp [hx])⟩ (fun x hx => hw x (by simp [hx])) (.inr ha)⟩
  exact gen l true _ h hw (.inl rfl)
theorem good_ok : ∀ (l : Ents) (first : Bool) (last : ByteArray), OkFrom first last l → TrMath.Good l ∧ (first = false → ∀ e ∈ l, ltB last e.1 = true) ∧ (∀ e ∈ l, 0 ≤ e.2 ∧ e.2 < 4294967296) := by
  intro l
  induction l with
  | nil => intro _ _ _; exact ⟨TrMath.Good.nil, fun _ e h => by simp at h, fun e h => by simp at h⟩
  | cons e r ih =>
    intro first last ⟨h1, h2, h3, h4, h5⟩
    obtain ⟨g1, g2, g3⟩ := ih false e.1 h5
    have ha := g2 rfl
    refine ⟨⟨List.pairwise_cons.2 ⟨ha, g1.asc⟩, fun x hx => ?_, fun x hx => ?_⟩, fun hf x hx => ?_, fun x hx => ?_⟩
    · rcases List.mem_cons.1 hx with rfl | hx
      · omega
      · exact g1.nz x hx
    · rcases List.mem_cons.1 hx with rfl | hx
      · exact h1
      · exact g1.short x hx
    · have hl : ltB last e.1 = true := h4.resolve_left (by rw [hf]; decide)
      rcases List.mem_cons.1 hx with rfl | hx
      · exact hl
      · exact ltB_trans hl (ha x hx)
    · rcases List.mem_cons.1 hx with rfl | hx
      · omega
      · exact g3 x hx

/-- What is told is read as it was. -/
theorem back_ok {l : Ents} {s : ByteArray} (ho : OkFrom true ⟨#[]⟩ l) (hl : l.length ≤ 1024) (h : s.data.toList = encGo l l.length) : decE s = 0 ∧ decT s = l := by
  rw [encGo_all] at h
  have h0 : s.data.toList = [] ++ (be l.length 2 ++ encFrom ⟨#[]⟩ l) := by rw [h]; rfl
  have hN := numR_at h0 (k := 0) rfl (by omega : l.length < 256 ^ 2)
  rw [Nat.zero_add] at hN
  have hf := decGo_fwd l true ⟨#[]⟩ (be l.length 2) [] 2 ho (by rw [List.append_nil]; exact h) (be_length _ _)
  have hsz := congrArg List.length h
  rw [size_list, List.length_append, be_length] at hsz
  obtain ⟨d1, d2⟩ := dec_3 hN rfl (by omega)
  have he : decE s = 0 := by
    rw [d1, hf]
    show endR s _ 0 = 0
    unfold endR
    rw [if_neg (by omega)]
  exact ⟨he, by rw [d2 he, hf]⟩
theorem back_more {l : Ents} {s : ByteArray} (ho : OkFrom true ⟨#[]⟩ l) (hl : l.length ≤ 1024) (h : s.data.toList = encGo l l.length ++ [0]) : decE s = 3 := by
  rw [encGo_all, List.append_assoc] at h
  have h0 : s.data.toList = [] ++ (be l.length 2 ++ (encFrom ⟨#[]⟩ l ++ [0])) := by rw [h]; rfl
  have hN := numR_at h0 (k := 0) rfl (by omega : l.length < 256 ^ 2)
  rw [Nat.zero_add] at hN
  have hf := decGo_fwd l true ⟨#[]⟩ (be l.length 2) [0] 2 ho h (be_length _ _)
  have hsz := congrArg List.length h
  rw [size_list, List.length_append, List.length_append, be_length] at hsz
  obtain ⟨d1, d2⟩ := dec_3 hN rfl (by omega)
  rw [d1, hf]
  show endR s _ 0 = 3
  unfold endR
  rw [if_pos ⟨rfl, by simp at hsz; omega⟩]
theorem back_less {l : Ents} {s : ByteArray} (ho : OkFrom true ⟨#[]⟩ l) (hl : l.length ≤ 1024) (h : s.data.toList = (encGo l l.length).dropLast) : decE s = 2 := by
  rw [encGo_all] at h
  cases l with
  | nil =>
    have hsz := congrArg List.length h
    rw [size_list, List.length_dropLast, List.length_append, be_length] at hsz
    have hN : numR s 0 0 2 = ((0, 2), (0, 2)) := numR_short (by simp [encFrom] at hsz; omega)
    exact dec_1 hN (by decide)
  | cons e r =>
    rw [List.dropLast_append_of_ne_nil encFrom_ne] at h
    have h0 : s.data.toList = [] ++ (be (e :: r).length 2 ++ (encFrom ⟨#[]⟩ (e :: r)).dropLast) := by rw [h]; rfl
    have hN := numR_at h0 (k := 0) rfl (by omega : (e :: r).length < 256 ^ 2)
    rw [Nat.zero_add] at hN
    have hf := decGo_cut (e :: r) true ⟨#[]⟩ (be (e :: r).length 2) 2 (by simp) ho h (be_length _ _)
    rw [(dec_3 hN rfl (by omega)).1, hf]
/-- What an entry's reading without an error has read. -/
theorem ent_inv {s last P : ByteArray} {first : Bool} {a e X b g : Nat} (ha : a ≤ s.size) (h : entR s first last a e = (0, ((P, X), (b, g)))) (hg : g = 0) :
    e = 0 ∧ b ≤ s.size ∧ s.data.toList.drop a = encE1 last P X ++ s.data.toList.drop b ∧ P.size ≤ 255 ∧ X ≠ 0 ∧ X < 4294967296 ∧ (first = true ∨ ltB last P = true) := by
  subst hg
  obtain ⟨n, f, a1, e1, hN⟩ : ∃ v f b g, numR s a e 1 = ((v, f), (b, g)) := ⟨_, _, _, _, rfl⟩
  obtain ⟨k, f1, a2, e2, hK⟩ : ∃ v f b g, numR s a1 e1 1 = ((v, f), (b, g)) := ⟨_, _, _, _, rfl⟩
  obtain ⟨t, gg, a3, e3, hR⟩ : ∃ v f b g, rawR s a2 e2 k = ((v, f), (b, g)) := ⟨_, _, _, _, rfl⟩
  obtain ⟨x, hx, a4, e4, hB⟩ : ∃ v f b g, numR s a3 e3 4 = ((v, f), (b, g)) := ⟨_, _, _, _, rfl⟩
  by_cases c : f = 0 ∧ last.size < n
  · have := ent_1 (first := first) hN c; rw [h] at this; exact absurd this (by simp)
  by_cases hgg : gg = 0
  · by_cases hb : 255 < (last.extract 0 n ++ t).size ∨ alkB last (last.extract 0 n ++ t) ≠ n ∨ (first = false ∧ ltB last (last.extract 0 n ++ t) = false)
    · have := ent_3 (first := first) hN c hK hR hgg hb; rw [h] at this; exact absurd this (by simp)
    · by_cases hh : hx = 0
      · by_cases hx0 : x = 0
        · have := ent_5 (first := first) hN c hK hR hgg hb hB hh hx0; rw [h] at this; exact absurd this (by simp)
        · have h6 := ent_6 (first := first) hN c hK hR hgg hb hB hh hx0
          rw [h] at h6
          simp only [Prod.mk.injEq, true_and] at h6
          obtain ⟨⟨hP, hX⟩, hb4, hg4⟩ := h6
          subst hX hb4 hg4 hh
          obtain ⟨i1, _, i3, i4, i5⟩ := numR_inv hB
          subst i1
          have hr0 : e2 = 0 ∧ a3 = a2 + t.size ∧ a2 + t.size ≤ s.size ∧ t.size = k ∧ t.data.toList = (s.data.toList.drop a2).take k := by
            by_cases he2 : e2 = 0
            · subst he2
              by_cases hsh : (s.size : Int) - a2 < k
              · rw [rawR_short (by omega) hsh] at hR; simp only [Prod.mk.injEq] at hR; omega
              · by_cases ha2 : a2 + k ≤ s.size
                · rw [rawR_ok ha2] at hR
                  simp only [Prod.mk.injEq] at hR
                  obtain ⟨⟨rfl, _⟩, rfl, _⟩ := hR
                  have hts : (s.extract a2 (a2 + k)).size = k := by rw [ByteArray.size_extract]; omega
                  refine ⟨rfl, by rw [hts], by rw [hts]; exact ha2, hts, ?_⟩
                  rw [extract_list, Nat.add_sub_cancel_left]
                · omega
            · rw [rawR_err he2] at hR; simp only [Prod.mk.injEq] at hR; omega
          obtain ⟨rfl, j2, j3, j4, j5⟩ := hr0
          obtain ⟨k1, _, k3, k4, k5⟩ := numR_inv hK
          subst k1
          obtain ⟨l1, _, l3, l4, l5⟩ := numR_inv hN
          have hf0 : f = 0 := stick hN hK hR hgg
          have hnl : n ≤ last.size := by by_cases h2 : last.size < n; exact absurd ⟨hf0, h2⟩ c; omega
          have hb1 : ¬ 255 < (last.extract 0 n ++ t).size := fun q => hb (.inl q)
          have hb2 : alkB last (last.extract 0 n ++ t) = n := by
            by_cases q : alkB last (last.extract 0 n ++ t) = n
            · exact q
            · exact absurd (.inr (.inl q)) hb
          have hPz : P.size = n + t.size := by rw [hP, ByteArray.size_append, ByteArray.size_extract]; omega
          refine ⟨l1, by omega, ?_, by rw [hP]; omega, hx0, by have := numR_lt s a3 0 4; rw [hB] at this; exact this, ?_⟩
          · have s1 : ∀ (i m : Nat), s.data.toList.drop i = (s.data.toList.drop i).take m ++ s.data.toList.drop (i + m) := fun i m => by
              conv => lhs; rw [← List.take_append_drop m (s.data.toList.drop i), List.drop_drop]
            rw [s1 a 1, l5, ← l3, s1 a1 1, k5, ← k3, s1 a2 k, ← j5, ← j4, ← j2, s1 a3 4, i5, ← i3]
            unfold encE1
            rw [← hP] at hb2
            have hdr : (kB P).drop n = t.data.toList := by
              rw [hP, kB_append, kB_extract, List.drop_zero, Nat.sub_zero]
              have : ((kB last).take n).length = n := by rw [List.length_take, kB_len]; omega
              rw [List.drop_left' this]
              rfl
            rw [hb2, hdr, show P.size - n = t.size from by omega, j4]
            simp [List.append_assoc]
          · cases hfi : first with
            | true => exact .inl rfl
            | false =>
              right
              rw [hP]
              cases hl : ltB last (last.extract 0 n ++ t) with
              | true => rfl
              | false => exact absurd (.inr (.inr ⟨hfi, hl⟩)) hb
      · have := ent_4 (first := first) hN c hK hR hgg hb hB hh; rw [h] at this; exact absurd this.symm hh
  · have := ent_2 (first := first) hN c hK hR hgg; rw [h] at this; exact absurd this.symm hgg
theorem decGo_inv {s : ByteArray} : ∀ (r : Nat) (first : Bool) (last : ByteArray) (a e : Nat), a ≤ s.size → (decGo s r first last a e).1 = 0 →
    e = 0 ∧ s.data.toList.drop a = encFrom last (decGo s r first last a e).2 ∧ (decGo s r first last a e).2.length = r ∧ OkFrom first last (decGo s r first last a e).2 := by
  intro r
  induction r with
  | zero =>
    intro first last a e ha h
    have h' : endR s a e = 0 := h
    unfold endR at h'
    split at h'
    · exact absurd h' (by decide)
    · rename_i c
      refine ⟨h', ?_, rfl, trivial⟩
      have : ¬ a < s.size := fun q => c ⟨h', q⟩
      rw [List.drop_eq_nil_of_le (by rw [size_list]; omega)]
      rfl
  | succ r ih =>
    intro first last a e ha h
    obtain ⟨E, ⟨⟨P, X⟩, ⟨b, g⟩⟩, hE⟩ : ∃ E R, entR s first last a e = (E, R) := ⟨_, _, rfl⟩
    by_cases h0 : E = 0
    · subst h0
      rw [decGo_ok hE] at h ⊢
      have hbs : b ≤ s.size := by
        have num_le : ∀ {a e n v f b g : Nat}, a ≤ s.size → numR s a e n = ((v, f), (b, g)) → b ≤ s.size := by
          intro a e n v f b g h hN
          unfold numR at hN
          split at hN
          · cases hN; exact h
          · split at hN
            · cases hN; exact h
            · cases hN; omega
        have raw_le : ∀ {a e : Nat} {n : Int} {v : ByteArray} {f b g : Nat}, a ≤ s.size → rawR s a e n = ((v, f), (b, g)) → b ≤ s.size := by
          intro a e n v f b g h hN
          unfold rawR at hN
          split at hN
          · cases hN; exact h
          · split at hN
            · cases hN; exact h
            · split at hN
              · cases hN; exact h
              · cases hN; omega
        unfold entR at hE
        simp only at hE
        split at hE
        · cases hE
        · split at hE
          · rename_i q; exact absurd (congrArg (·.1) hE) q
          · split at hE
            · cases hE
            · split at hE
              · rename_i q; exact absurd (congrArg (·.1) hE) q
              · split at hE
                · cases hE
                · have q := congrArg (fun R => R.2.2.1) hE
                  simp only at q
                  rw [← q]
                  exact num_le (raw_le (num_le (num_le ha rfl) rfl) rfl) rfl
      obtain ⟨g0, d1, d2, d3⟩ := ih false P b g hbs h
      obtain ⟨i1, i2, i3, i4, i5, i6, i7⟩ := ent_inv ha hE g0
      refine ⟨i1, ?_, by simp only [List.length_cons, d2], i4, by show (0 : Int) < (X : Int); omega, by show (X : Int) < 4294967296; omega, i7, d3⟩
      rw [i3, d1]
      show _ = encE1 last P ((X : Int)).toNat ++ _
      rw [Int.toNat_natCast]
    · rw [decGo_err (by rw [hE]) h0] at h
      exact absurd h h0
/-- What is read is told as it stood. -/
theorem told {s : ByteArray} (h : decE s = 0) : OkFrom true ⟨#[]⟩ (decT s) ∧ (decT s).length ≤ 1024 ∧ s.data.toList = encGo (decT s) (decT s).length := by
  obtain ⟨c, f, a, e, hN⟩ : ∃ v f b g, numR s 0 0 2 = ((v, f), (b, g)) := ⟨_, _, _, _, rfl⟩
  by_cases hf : f = 0
  · by_cases hc : 1024 < c
    · rw [dec_2 hN hf hc] at h; exact absurd h (by decide)
    · obtain ⟨d1, d2⟩ := dec_3 hN hf hc
      have hT := d2 h
      rw [d1] at h
      have hg : e = 0 := by
        unfold numR at hN
        simp only [ne_eq, not_true_eq_false, if_false] at hN
        split at hN
        · cases hN; exact absurd hf (by decide)
        · cases hN; rfl
      subst hg
      obtain ⟨_, _, n3, n4, n5⟩ := numR_inv hN
      obtain ⟨_, e1, e2, e3⟩ := decGo_inv c true ⟨#[]⟩ a 0 (by omega) h
      rw [← hT] at e1 e2 e3
      refine ⟨e3, by omega, ?_⟩
      rw [encGo_all, e2, ← e1, ← n5, n3, List.drop_zero, Nat.zero_add, List.take_append_drop]
  · rw [dec_1 hN hf] at h; exact absurd h hf
end Go.Proofs.Ytdjpmgkcgpkkmaa
