/- Walks of layer 8: searching a tree; what it has at a path. -/
import Derived.Test.YtdjpmgkcgpkkmaaTrMk
set_option linter.unusedVariables false
set_option linter.unusedSimpArgs false
namespace Go.Proofs.Ytdjpmgkcgpkkmaa
open Go.RowKit TrMath

theorem asc_lt {l : Ents} (h : Asc l) {p : ByteArray} {i j : Nat} (hj : j < l.length) (hij : i ≤ j) (k : ltB l[j].1 p = true) : ltB l[i].1 p = true := by
  rcases Nat.lt_or_ge i j with e | e
  · exact ltB_trans (List.pairwise_iff_getElem.1 h i j (by omega) hj e) k
  · obtain rfl : i = j := by omega
    exact k
theorem asc_ge {l : Ents} (h : Asc l) {p : ByteArray} {i j : Nat} (hj : j < l.length) (hij : i ≤ j) (k : ltB l[i].1 p = false) : ltB l[j].1 p = false := by
  cases e : ltB l[j].1 p
  · rfl
  · have := asc_lt h hj hij e
    rw [k] at this
    exact absurd this (by simp)
/-- Where a path stands, or would stand. -/
structure IxAt (l : Ents) (p : ByteArray) (i : Nat) : Prop where
  le : i ≤ l.length
  lo : ∀ j (h : j < l.length), j < i → ltB l[j].1 p = true
  hi : ∀ h : i < l.length, ltB l[i].1 p = false
/-- Does it stand there? -/
def okAt (l : Ents) (p : ByteArray) (i : Nat) : Bool := decide (∃ h : i < l.length, l[i].1 = p)
theorem lookL_ix {l : Ents} (h : Asc l) {p : ByteArray} {i : Nat} (hi : IxAt l p i) : lookL l p = if h : i < l.length then (if l[i].1 = p then l[i].2 else 0) else 0 := by
  by_cases hlt : i < l.length
  · rw [dif_pos hlt]
    by_cases he : l[i].1 = p
    · rw [if_pos he, ← he]; exact lookL_at l h i hlt
    · rw [if_neg he]
      refine lookL_no l p fun e hm k => ?_
      obtain ⟨j, hj, rfl⟩ := List.mem_iff_getElem.1 hm
      rcases Nat.lt_trichotomy j i with c | c | c
      · exact ltB_ne (hi.lo j hj c) k
      · subst c; exact he k
      · have h1 := List.pairwise_iff_getElem.1 h i j hlt hj c
        rw [k] at h1
        rw [hi.hi hlt] at h1
        exact absurd h1 (by simp)
  · rw [dif_neg hlt]
    refine lookL_no l p fun e hm k => ?_
    obtain ⟨j, hj, rfl⟩ := List.mem_iff_getElem.1 hm
    exact ltB_ne (hi.lo j hj (by omega)) k
def SearchSaid (l : Ents) (p : ByteArray) (w : World) (e : Ending) (w' : World) : Prop :=
  ∃ i : Nat, e = .returned (.tuple #[.int .i64 i, .bool (okAt l p i)]) ∧ IxAt l p i ∧ Below w.heap.size w w'

set_option maxHeartbeats 1000000 in
set_option maxRecDepth 100000 in
theorem tSearch (l : Ents) (hA : Asc l) (p : ByteArray) (a : Option Addr) (c : Nat) (hl : l.length ≤ 1099511627776) (w : World) (h : EnAt w a l) :
    Calls Try.prog 51 #[.slice a l.length c, .string p, .func (.func 39) #[] #[]] w (SearchSaid l p w) := by
  have HA := Lib.hid h; have HAs := Lib.hid hA
  clear h hA
  go_enter Try.func51, Try.ntmps51
  go_wp2
  go_loopw [9, 10] (fun iv jv wr => ∃ i j : Nat, i ≤ j ∧ j ≤ l.length ∧ iv = .int .i64 i ∧ jv = .int .i64 j ∧ (∀ a (h : a < l.length), a < i → ltB l[a].1 p = true) ∧ (∀ a (h : a < l.length), j ≤ a → ltB l[a].1 p = false) ∧ Below w.heap.size w wr) (fun iv jv _ => (intOf jv).toNat - (intOf iv).toNat)
  case atStart => exact ⟨0, l.length, Nat.zero_le _, Nat.le_refl _, rfl, rfl, fun a _ h => absurd h (Nat.not_lt_zero _), fun a h h2 => by omega, Below.refl _ _⟩
  case round =>
    obtain ⟨i, j, hij, hj, rfl, rfl, hlo, hhi, hbel⟩ := hrel
    have HLO := Lib.hid hlo; have HHI := Lib.hid hhi; have HB := Lib.hid hbel
    clear hlo hhi hbel
    by_cases hlt : i < j
    · obtain ⟨m, hm⟩ : ∃ m, m = (i + j) / 2 := ⟨_, rfl⟩
      have hm1 : i ≤ m := by omega
      have hm2 : m < j := by omega
      have hml : m < l.length := by omega
      have hmz : ((i : Int) + (j : Int)) / 2 = (m : Int) := by omega
      obtain ⟨b1, o1, rfl, hb1, p1, p2⟩ := HA.out.below HB.out m hml
      obtain ⟨q, x, hx⟩ : ∃ q x, l[m] = (q, x) := ⟨_, _, rfl⟩
      rw [hx] at p1 p2
      have HX := Lib.hid hx
      have HC := Lib.hid (fun W => tByPathG q x p W)
      clear hx hm
      by_cases hq : ltB q p = true
      · have hc : cmpP q p < 0 := (cmpP_lt q p).2 hq
        have HQ := Lib.hid hq
        clear hq
        go_wp2_with (go_at_call 39; (with_reducible refine (HC.out _).mono ?_); rintro e w2 ⟨rfl, rfl⟩)
        go_roundw
        case rel => exact ⟨m + 1, j, by omega, hj, by go_num, rfl, fun a h h2 => asc_lt HAs.out hml (by omega) (by rw [HX.out]; exact HQ.out), HHI.out, bl_alloc HB.out _⟩
        case measure => simp [intOf]; omega
      · have hc : ¬ cmpP q p < 0 := fun k => hq ((cmpP_lt q p).1 k)
        have HQ := Lib.hid (show ltB q p = false by simpa using hq)
        clear hq
        go_wp2_with (go_at_call 39; (with_reducible refine (HC.out _).mono ?_); rintro e w2 ⟨rfl, rfl⟩)
        go_roundw
        case rel => exact ⟨i, m, hm1, by omega, rfl, rfl, HLO.out, fun a h h2 => asc_ge HAs.out h h2 (by rw [HX.out]; exact HQ.out), bl_alloc HB.out _⟩
        case measure => simp [intOf]; omega
    · obtain rfl : i = j := by omega
      have HI := Lib.hid (show IxAt l p i from ⟨hj, HLO.out, fun h => HHI.out i h (Nat.le_refl _)⟩)
      by_cases hil : i < l.length
      · have hilz : decide ((i : Int) < (l.length : Int)) = true := by simp; omega
        obtain ⟨b1, o1, rfl, hb1, p1, p2⟩ := HA.out.below HB.out i hil
        obtain ⟨q, x, hx⟩ : ∃ q x, l[i] = (q, x) := ⟨_, _, rfl⟩
        rw [hx] at p1 p2
        have HX := Lib.hid hx
        have HC := Lib.hid (fun W => tByPathG q x p W)
        clear hx
        by_cases hq : q = p
        · have hc : (cmpP q p == 0) = true := by rw [(cmpP_eq q p).2 hq]; rfl
          have HK := Lib.hid (show okAt l p i = true from decide_eq_true ⟨hil, by rw [HX.out]; exact hq⟩)
          clear hq
          go_wp2_with (go_at_call 39; (with_reducible refine (HC.out _).mono ?_); rintro e w2 ⟨rfl, rfl⟩)
          go_ret2
          exact ⟨i, by rw [HK.out]; rfl, HI.out, bl_alloc HB.out _⟩
        · have hc : (cmpP q p == 0) = false := by rw [beq_eq_false_iff_ne]; exact fun k => hq ((cmpP_eq q p).1 k)
          have HK := Lib.hid (show okAt l p i = false from decide_eq_false (fun ⟨_, k⟩ => hq (by rw [HX.out] at k; exact k)))
          clear hq
          go_wp2_with (go_at_call 39; (with_reducible refine (HC.out _).mono ?_); rintro e w2 ⟨rfl, rfl⟩)
          go_ret2
          exact ⟨i, by rw [HK.out]; rfl, HI.out, bl_alloc HB.out _⟩
      · have hilz : decide ((i : Int) < (l.length : Int)) = false := by simp; omega
        have HK := Lib.hid (show okAt l p i = false from decide_eq_false (fun ⟨h, _⟩ => hil h))
        go_wp2
        go_ret2
        exact ⟨i, by rw [HK.out]; rfl, HI.out, HB.out⟩

set_option maxHeartbeats 1000000 in
set_option maxRecDepth 100000 in
theorem tLook (l : Ents) (hA : Asc l) (p : ByteArray) (a : Option Addr) (c : Nat) (hl : l.length ≤ 1099511627776) (w : World) (h : EnAt w a l) :
    Calls Try.prog 25 #[.slice a l.length c, .string p] w fun e w' => e = .returned (.int .u32 (lookL l p)) ∧ Below w.heap.size w w' := by
  have HS := Lib.hid (tSearch l hA p a c hl w h)
  have HA := Lib.hid h; have HAs := Lib.hid hA
  clear h hA
  go_enter Try.func25, Try.ntmps25
  go_wp2_with fail
  refine (HS.out).mono ?_
  rintro e w2 ⟨i, rfl, hix, hb⟩
  have HX := Lib.hid hix
  have HB := Lib.hid hb
  clear hix hb
  by_cases hok : okAt l p i = true
  · obtain ⟨hil, he⟩ : ∃ h : i < l.length, l[i].1 = p := of_decide_eq_true hok
    have HL := Lib.hid (show lookL l p = l[i].2 by rw [lookL_ix HAs.out HX.out, dif_pos hil, if_pos he])
    obtain ⟨b1, o1, rfl, hb1, p1, p2⟩ := HA.out.below HB.out i hil
    obtain ⟨x, hx⟩ : ∃ x, l[i].2 = x := ⟨_, rfl⟩
    rw [hx] at p2
    have HX2 := Lib.hid hx
    clear he p1 hx
    go_wp2
    go_ret
    exact ⟨by rw [HL.out, HX2.out]; rfl, HB.out⟩
  · have hok' : okAt l p i = false := by simpa using hok
    have he : ¬ ∃ h : i < l.length, l[i].1 = p := of_decide_eq_false hok'
    have HL := Lib.hid (show lookL l p = 0 by
      rw [lookL_ix HAs.out HX.out]
      split
      · rename_i h; rw [if_neg (fun k => he ⟨h, k⟩)]
      · rfl)
    clear he hok
    go_wp2
    go_ret
    exact ⟨by rw [HL.out]; rfl, HB.out⟩
end Go.Proofs.Ytdjpmgkcgpkkmaa
