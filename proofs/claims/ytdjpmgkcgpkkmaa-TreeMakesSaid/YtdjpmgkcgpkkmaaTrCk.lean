/- Walks of layer 8: what is wrong with a list of entries. -/
import Derived.Test.YtdjpmgkcgpkkmaaTrGd
set_option linter.unusedVariables false
set_option linter.unusedSimpArgs false
namespace Go.Proofs.Ytdjpmgkcgpkkmaa
open Go.RowKit TrMath

/-- What is wrong with the entry at a place. -/
def wrg (l : Ents) (k : Nat) : Int :=
  match l[k]? with
  | none => 0
  | some e => if 255 < e.1.size then 5 else if e.2 = 0 then 1 else if k = 0 then 0 else
    match l[k - 1]? with
    | none => 0
    | some q => if e.1 = q.1 then 11 else if ltB e.1 q.1 = true then 10 else 0
/-- What is wrong with a list: the first thing. -/
def chkL (l : Ents) : Int := match (List.range l.length).find? (fun k => decide (wrg l k ≠ 0)) with | some k => wrg l k | none => 0
theorem chk_none {l : Ents} (h : ∀ j, j < l.length → wrg l j = 0) : chkL l = 0 := by
  unfold chkL
  rw [List.find?_eq_none.2 (fun x hx => by simpa using h x (List.mem_range.1 hx))]
theorem chk_first {l : Ents} {k : Nat} (hk : k < l.length) (h : ∀ j, j < k → wrg l j = 0) (hw : wrg l k ≠ 0) : chkL l = wrg l k := by
  unfold chkL
  have e : (List.range l.length).find? (fun k => decide (wrg l k ≠ 0)) = some k := by
    rw [List.find?_eq_some_iff_append]
    refine ⟨by simpa using hw, List.range k, (List.range' (k + 1) (l.length - (k + 1))), ?_, fun a ha => by simpa using h a (List.mem_range.1 ha)⟩
    rw [List.range_eq_range', List.range_eq_range', show k :: List.range' (k + 1) (l.length - (k + 1)) = List.range' k (l.length - k) from by rw [show l.length - k = (l.length - (k + 1)) + 1 from by omega, List.range'_succ]]
    have := List.range'_append_1 (s := 0) (m := k) (n := l.length - k)
    rw [Nat.zero_add, show k + (l.length - k) = l.length from by omega] at this
    exact this.symm
  rw [e]
theorem wrg_at {l : Ents} {k : Nat} {p : ByteArray} {x : Int} (hk : k < l.length) (hx : l[k] = (p, x)) :
    wrg l k = if 255 < p.size then 5 else if x = 0 then 1 else if k = 0 then 0 else match l[k - 1]? with | none => 0 | some q => if p = q.1 then 11 else if ltB p q.1 = true then 10 else 0 := by
  unfold wrg
  rw [List.getElem?_eq_getElem hk, hx]
theorem wrg_prev {l : Ents} {j : Nat} {p q : ByteArray} {x y : Int} (hk : j + 1 < l.length) (hx : l[j + 1] = (p, x)) (hq : l[j] = (q, y)) :
    wrg l (j + 1) = if 255 < p.size then 5 else if x = 0 then 1 else if p = q then 11 else if ltB p q = true then 10 else 0 := by
  rw [wrg_at hk hx, if_neg (show ¬ j + 1 = 0 by omega), Nat.add_sub_cancel, List.getElem?_eq_getElem (by omega), hq]
theorem chk_good {l : Ents} (h : TrMath.Good l) : chkL l = 0 := chk_none fun j hj => by
  obtain ⟨p, x, hx⟩ : ∃ p x, l[j] = (p, x) := ⟨_, _, rfl⟩
  have h1 := h.short l[j] (List.getElem_mem hj)
  have h2 := h.nz l[j] (List.getElem_mem hj)
  rw [hx] at h1 h2
  simp only at h1 h2
  rw [wrg_at hj hx, if_neg (by omega), if_neg h2]
  rcases j with _ | j
  · rfl
  · rw [if_neg (by omega), Nat.add_sub_cancel, List.getElem?_eq_getElem (by omega)]
    have h3 := List.pairwise_iff_getElem.1 h.asc j (j + 1) (by omega) hj (by omega)
    rw [hx] at h3
    show (if p = l[j].1 then (11 : Int) else if ltB p l[j].1 = true then 10 else 0) = 0
    rw [if_neg (fun e => ltB_ne h3 e.symm), if_neg (by rw [ltB_asym h3]; simp)]

set_option maxHeartbeats 4000000 in
set_option maxRecDepth 100000 in
theorem tCheck (l : Ents) (a : Option Addr) (c : Nat) (hl : l.length ≤ maxLen) (w : World) (h : EnAt w a l) :
    Calls Try.prog 15 #[.slice a l.length c] w fun e w' => e = .returned (.int .i64 (chkL l)) ∧ Below w.heap.size w w' := by
  unfold maxLen at hl
  have HA := Lib.hid h
  clear h
  go_enter Try.func15, Try.ntmps15
  go_wp2
  go_loopw [7] (fun iv wr => ∃ k : Nat, k ≤ l.length ∧ iv = .int .i64 k ∧ (∀ j, j < k → wrg l j = 0) ∧ Below w.heap.size w wr) (fun iv _ => l.length - (intOf iv).toNat)
  case atStart => exact ⟨0, Nat.zero_le _, rfl, fun j h => absurd h (Nat.not_lt_zero _), Below.refl _ _⟩
  case round =>
    obtain ⟨k, hk, rfl, hno, hbel⟩ := hrel
    have HNO := Lib.hid hno; have HB := Lib.hid hbel
    clear hno hbel
    by_cases hlt : k < l.length
    · obtain ⟨b1, o1, rfl, hb1, p1, p2⟩ := HA.out.below HB.out k hlt
      obtain ⟨p, x, hx⟩ : ∃ p x, l[k] = (p, x) := ⟨_, _, rfl⟩
      rw [hx] at p1 p2
      have HW := Lib.hid (wrg_at hlt hx)
      by_cases hp : 255 < p.size
      · have hpz : decide (255 < (p.size : Int)) = true := by simp; omega
        have HR := Lib.hid (show chkL l = 5 by rw [chk_first hlt HNO.out (by rw [HW.out, if_pos hp]; decide), HW.out, if_pos hp])
        clear hx hp
        go_wp2
        go_ret
        exact ⟨by rw [HR.out]; rfl, bl_alloc HB.out _⟩
      · have hpz : decide (255 < (p.size : Int)) = false := by simp; omega
        by_cases hz : x = 0
        · subst hz
          have HR := Lib.hid (show chkL l = 1 by rw [chk_first hlt HNO.out (by rw [HW.out, if_neg hp, if_pos rfl]; decide), HW.out, if_neg hp, if_pos rfl])
          clear hx hp
          go_wp2
          go_ret
          exact ⟨by rw [HR.out]; rfl, bl_alloc HB.out _⟩
        · have hz' : (x == 0) = false := by simpa using hz
          rcases k with _ | j
          · have HN := Lib.hid (show wrg l 0 = 0 by rw [HW.out, if_neg hp, if_neg hz, if_pos rfl])
            clear hx hp hz
            rw [Nat.zero_mul, Nat.add_zero] at p1 p2
            go_wp2
            go_quiet (fail)
            go_wp2
            go_quiet (fail)
            go_wp2
            go_roundw
            case rel => exact ⟨1, by omega, by first | rfl | go_num, fun j h => by
              obtain rfl : j = 0 := by omega
              exact HN.out, by first | exact bl_drewN (bl_alloc HB.out _) _ | exact bl_drewN (bl_drewN (bl_alloc HB.out _) _) _⟩
            case measure => simp [intOf]; omega
          · obtain ⟨b2, o2, hbb, hb2, q1, q2⟩ := HA.out.below HB.out j (by omega)
            cases hbb
            obtain ⟨q, y, hy⟩ : ∃ q y, l[j] = (q, y) := ⟨_, _, rfl⟩
            rw [hy] at q1
            have HW2 := Lib.hid (wrg_prev hlt hx hy)
            have hj1 : (0 : Int) < (j : Int) + 1 := by omega
            have hwz : IntKind.i64.wrap (j : Int) = (j : Int) := IntWalk.i64_in _ (by omega)
            have hjl : (j : Int) < l.length := by omega
            have hjl2 : (j : Int) + 1 < l.length := by omega
            clear hx hy q2
            by_cases he : p = q
            · subst he
              have hee : (p.toList == p.toList) = true := by simp
              have HR := Lib.hid (show chkL l = 11 by rw [chk_first hlt HNO.out (by rw [HW2.out, if_neg hp, if_neg hz, if_pos rfl]; decide), HW2.out, if_neg hp, if_neg hz, if_pos rfl])
              clear hp hz
              go_wp2
              go_quiet (fail)
              go_wp2
              go_ret
              exact ⟨by rw [HR.out]; rfl, by first | exact bl_drewN (bl_alloc HB.out _) _ | exact bl_drewN (bl_drewN (bl_alloc HB.out _) _) _⟩
            · have hee : (p.toList == q.toList) = false := str_eq he
              by_cases hlt2 : ltB p q = true
              · have hbl : Op.bytesLess p.toList q.toList = true := by rw [bless]; exact hlt2
                have HR := Lib.hid (show chkL l = 10 by rw [chk_first hlt HNO.out (by rw [HW2.out, if_neg hp, if_neg hz, if_neg he, if_pos hlt2]; decide), HW2.out, if_neg hp, if_neg hz, if_neg he, if_pos hlt2])
                clear hp hz he hlt2
                go_wp2
                go_quiet (fail)
                go_wp2
                go_quiet (fail)
                go_wp2
                go_ret
                exact ⟨by rw [HR.out]; rfl, by first | exact bl_drewN (bl_alloc HB.out _) _ | exact bl_drewN (bl_drewN (bl_alloc HB.out _) _) _⟩
              · have hbl : Op.bytesLess p.toList q.toList = false := by rw [bless]; simpa using hlt2
                have HN := Lib.hid (show wrg l (j + 1) = 0 by rw [HW2.out, if_neg hp, if_neg hz, if_neg he, if_neg hlt2])
                clear hp hz he hlt2
                go_wp2
                go_quiet (fail)
                go_wp2
                go_quiet (fail)
                go_wp2
                go_roundw
                case rel => exact ⟨j + 2, by omega, by go_num, fun i h => by
                  rcases Nat.lt_or_ge i (j + 1) with h1 | h1
                  · exact HNO.out i h1
                  · obtain rfl : i = j + 1 := by omega
                    exact HN.out, by first | exact bl_drewN (bl_alloc HB.out _) _ | exact bl_drewN (bl_drewN (bl_alloc HB.out _) _) _⟩
                case measure => simp [intOf]; omega
    · have HR := Lib.hid (show chkL l = 0 from chk_none fun j hj => HNO.out j (by omega))
      go_wp2
      go_ret
      exact ⟨by rw [HR.out]; rfl, HB.out⟩
set_option maxHeartbeats 4000000 in
set_option maxRecDepth 100000 in
theorem rWrong (l : Ents) (a : Option Addr) (c : Nat) (hl : l.length ≤ maxLen) (k : Nat) (hlt : k < l.length) (w : World) (h : EnAt w a l) :
    Calls Try.prog 40 #[.slice a l.length c, .int .i64 k] w fun e w' => e = .returned (.int .i64 (wrg l k)) ∧ ∃ n, w' = w.drewN n := by
  unfold maxLen at hl
  obtain ⟨b1, o1, rfl, hb1, p1, p2⟩ := h k hlt
  obtain ⟨p, x, hx⟩ : ∃ p x, l[k] = (p, x) := ⟨_, _, rfl⟩
  rw [hx] at p1 p2
  have HA := Lib.hid h
  have HW := Lib.hid (wrg_at hlt hx)
  clear h
  by_cases hp : 255 < p.size
  · have hpz : decide (255 < (p.size : Int)) = true := by simp; omega
    have HR := Lib.hid (show wrg l k = 5 by rw [HW.out, if_pos hp])
    clear hx hp
    go_enter Try.func40, Try.ntmps40
    go_wp2
    go_ret
    exact ⟨by rw [HR.out]; rfl, 0, rfl⟩
  · have hpz : decide (255 < (p.size : Int)) = false := by simp; omega
    by_cases hz : x = 0
    · subst hz
      have HR := Lib.hid (show wrg l k = 1 by rw [HW.out, if_neg hp, if_pos rfl])
      clear hx hp
      go_enter Try.func40, Try.ntmps40
      go_wp2
      go_ret
      exact ⟨by rw [HR.out]; rfl, 0, rfl⟩
    · have hz' : (x == 0) = false := by simpa using hz
      rcases k with _ | j
      · have HR := Lib.hid (show wrg l 0 = 0 by rw [HW.out, if_neg hp, if_neg hz, if_pos rfl])
        clear hx hp hz
        rw [Nat.zero_mul, Nat.add_zero] at p1 p2
        go_enter Try.func40, Try.ntmps40
        go_wp2
        go_quiet (fail)
        go_wp2
        go_quiet (fail)
        go_wp2
        go_ret
        exact ⟨by rw [HR.out]; rfl, _, by first | rfl | (rw [World.drewN_drewN])⟩
      · obtain ⟨b2, o2, hbb, hb2, q1, q2⟩ := HA.out j (by omega)
        cases hbb
        obtain ⟨q, y, hy⟩ : ∃ q y, l[j] = (q, y) := ⟨_, _, rfl⟩
        rw [hy] at q1
        have HW2 := Lib.hid (wrg_prev hlt hx hy)
        have hj1 : (0 : Int) < (j : Int) + 1 := by omega
        have hwz : IntKind.i64.wrap (j : Int) = (j : Int) := IntWalk.i64_in _ (by omega)
        have hjl : (j : Int) < l.length := by omega
        have hjl2 : (j : Int) + 1 < l.length := by omega
        have hj2 : (0 : Int) ≤ (j : Int) + 1 := by omega
        have hj3 : ((j : Int) + 1).toNat = j + 1 := by omega
        clear hx hy q2
        by_cases he : p = q
        · subst he
          have hee : (p.toList == p.toList) = true := by simp
          have HR := Lib.hid (show wrg l (j + 1) = 11 by rw [HW2.out, if_neg hp, if_neg hz, if_pos rfl])
          clear hp hz
          go_enter Try.func40, Try.ntmps40
          go_wp2
          go_quiet (fail)
          go_wp2
          go_ret
          exact ⟨by rw [HR.out]; rfl, _, by first | rfl | (rw [World.drewN_drewN])⟩
        · have hee : (p.toList == q.toList) = false := str_eq he
          by_cases hlt2 : ltB p q = true
          · have hbl : Op.bytesLess p.toList q.toList = true := by rw [bless]; exact hlt2
            have HR := Lib.hid (show wrg l (j + 1) = 10 by rw [HW2.out, if_neg hp, if_neg hz, if_neg he, if_pos hlt2])
            clear hp hz he hlt2
            go_enter Try.func40, Try.ntmps40
            go_wp2
            go_quiet (fail)
            go_wp2
            go_quiet (fail)
            go_wp2
            go_ret
            exact ⟨by rw [HR.out]; rfl, _, by first | rfl | (rw [World.drewN_drewN])⟩
          · have hbl : Op.bytesLess p.toList q.toList = false := by rw [bless]; simpa using hlt2
            have HR := Lib.hid (show wrg l (j + 1) = 0 by rw [HW2.out, if_neg hp, if_neg hz, if_neg he, if_neg hlt2])
            clear hp hz he hlt2
            go_enter Try.func40, Try.ntmps40
            go_wp2
            go_quiet (fail)
            go_wp2
            go_quiet (fail)
            go_wp2
            go_ret
            exact ⟨by rw [HR.out]; rfl, _, by first | rfl | (rw [World.drewN_drewN])⟩

set_option maxHeartbeats 1000000 in
set_option maxRecDepth 100000 in
theorem rCheck (l : Ents) (a : Option Addr) (c : Nat) (hl : l.length ≤ maxLen) (w : World) (h : EnAt w a l) :
    Calls Try.prog 16 #[.slice a l.length c] w fun e w' => e = .returned (.int .i64 (chkL l)) ∧ Below w.heap.size w w' := by
  have HR := Lib.hid (fun k hk W hW => rWrong l a c hl k hk W hW)
  unfold maxLen at hl
  have HA := Lib.hid h
  clear h
  go_enter Try.func16, Try.ntmps16
  go_wp2
  go_loopw [3] (fun iv wr => ∃ k : Nat, k ≤ l.length ∧ iv = .int .i64 k ∧ (∀ j, j < k → wrg l j = 0) ∧ Below w.heap.size w wr) (fun iv _ => l.length - (intOf iv).toNat)
  case atStart => exact ⟨0, Nat.zero_le _, rfl, fun j h => absurd h (Nat.not_lt_zero _), Below.refl _ _⟩
  case round =>
    obtain ⟨k, hk, rfl, hno, hbel⟩ := hrel
    have HNO := Lib.hid hno; have HB := Lib.hid hbel
    clear hno hbel
    by_cases hlt : k < l.length
    · obtain ⟨r, hr⟩ : ∃ r, wrg l k = r := ⟨_, rfl⟩
      have HW := Lib.hid hr
      have HC := Lib.hid (fun W hW => HR.out k hlt W hW)
      rw [hr] at HC
      clear hr
      by_cases h0 : r = 0
      · subst h0
        go_wp2_with (go_at_call 40; (with_reducible refine (HC.out _ (HA.out.below HB.out)).mono ?_); rintro e w2 ⟨rfl, n, rfl⟩)
        go_roundw
        case rel => exact ⟨k + 1, by omega, by go_num, fun i h => by
          rcases Nat.lt_or_ge i k with h1 | h1
          · exact HNO.out i h1
          · obtain rfl : i = k := by omega
            exact HW.out, bl_drewN HB.out _⟩
        case measure => simp [intOf]; omega
      · have hn : (r != 0) = true := by simpa using h0
        have HF := Lib.hid (show chkL l = r by rw [chk_first hlt HNO.out (by rw [HW.out]; exact h0), HW.out])
        clear h0
        go_wp2_with (go_at_call 40; (with_reducible refine (HC.out _ (HA.out.below HB.out)).mono ?_); rintro e w2 ⟨rfl, n, rfl⟩)
        go_ret
        exact ⟨by rw [HF.out]; rfl, bl_drewN HB.out _⟩
    · have HF := Lib.hid (show chkL l = 0 from chk_none fun j hj => HNO.out j (by omega))
      go_wp2
      go_ret
      exact ⟨by rw [HF.out]; rfl, HB.out⟩
end Go.Proofs.Ytdjpmgkcgpkkmaa
