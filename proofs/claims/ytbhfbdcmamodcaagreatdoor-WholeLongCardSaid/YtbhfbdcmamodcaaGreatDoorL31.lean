/- Walks of layer 8: tree.Make; Walks of layer 8: the document's Put; Walks of layer 8: the document's Make; Walks of layer 8: what is wrong with a list of entries; Layer 8: changes as they lie; Layer 8: rows of changes of one's own; Layer 8: how two trees differ, by the program; Layer 8: how two trees differ, by the document. -/
import Derived.Test.YtbhfbdcmamodcaaGreatDoorL02
import Derived.Test.YtbhfbdcmamodcaaGreatDoorL30
import Derived.Shelf.SlSortCmp.InsertionK
import Derived.Deep.RegionLaw
import Derived.BigRegion
import Derived.BigQuiet
set_option linter.unusedVariables false
set_option linter.unusedSimpArgs false
namespace Go.Proofs.YtbhfbdcmamodcaaGreatDoor
open Go.RowKit TrMath
theorem bl_drewN {w x : World} {B : Nat} (h : Below B w x) (n : Nat) : Below B w (x.drewN n) := ⟨h.os, h.tape, h.output, h.size, h.block⟩
theorem Own.push {w1 : World} {B : Nat} {v1 : Value} {l : Ents} {p : ByteArray} {x : Int} (h : w1.ownsRow B 86 2 v1 (l.length + 1) (enCells l ++ [.string p, .int .u32 x])) : Own w1 B v1 (l ++ [(p, x)]) := by
  unfold Own
  rw [List.length_append, enCells_snoc]
  exact h
theorem str_eq {p q : ByteArray} (h : q ≠ p) : (q.toList == p.toList) = false := by
  simp only [beq_eq_false_iff_ne, ne_eq, ByteArray.toList_eq]
  exact fun k => h (kB_inj k)
end Go.Proofs.YtbhfbdcmamodcaaGreatDoor
namespace Go.Proofs.YtbhfbdcmamodcaaGreatDoor
open Go.RowKit TrMath
theorem blessE : ∀ (x y : List UInt8), Op.bytesLess x y = decide (x < y)
  | [], [] => by simp [Op.bytesLess]
  | _ :: _, [] => by simp [Op.bytesLess]
  | [], _ :: _ => by simp [Op.bytesLess]
  | a :: x, b :: y => by
    rw [Op.bytesLess, blessE x y]
    simp only [List.cons_lt_cons_iff]
    by_cases h1 : a < b <;> by_cases h2 : a = b <;> by_cases h3 : x < y <;> simp [h1, h2, h3]
theorem bless (q p : ByteArray) : Op.bytesLess q.toList p.toList = ltB q p := by
  rw [blessE]
  unfold ltB kB
  simp only [ByteArray.toList_eq]
theorem EnAt.drop {w : World} {b off : Nat} {l : Ents} (h : EnAt w (some ⟨b, off, none⟩) l) (k : Nat) : EnAt w (some ⟨b, off + k * 2, none⟩) (l.drop k) := fun i hi => by
  have hi' : k + i < l.length := by simp at hi; omega
  obtain ⟨b', off', h1, h0, h2, h3⟩ := h (k + i) hi'
  cases h1
  refine ⟨b, off + k * 2, rfl, h0, ?_, ?_⟩
  · rw [List.getElem_drop, show off + k * 2 + i * 2 = off + (k + i) * 2 from by omega]; exact h2
  · rw [List.getElem_drop, show off + k * 2 + i * 2 + 1 = off + (k + i) * 2 + 1 from by omega]; exact h3
structure Sl (a : Option Addr) (c : Nat) (l : Ents) : Prop where
  le : l.length ≤ c
  cm : c ≤ maxLen
  pl : (a = none ∧ c = 0) ∨ ∃ b off, a = some ⟨b, off, none⟩
theorem Own.sl {w : World} {B : Nat} {v : Value} {l : Ents} (h : Own w B v l) : ∃ a c, v = .slice a l.length c ∧ EnAt w a l ∧ Sl a c l := by
  rcases h.2 with ⟨h1, h2⟩ | ⟨g, cap, cur, hvv, hgB, hh, hn, hm, r⟩
  · exact ⟨none, 0, by rw [h1, h2], fun i hi => by omega, ⟨by omega, by simp [maxLen], .inl ⟨rfl, rfl⟩⟩⟩
  · obtain ⟨a, c, hv, he, _⟩ := Own.at h
    rw [hvv] at hv
    simp only [Value.slice.injEq] at hv
    obtain ⟨rfl, _, rfl⟩ := hv
    exact ⟨_, _, hvv, he, ⟨hn, hm, .inr ⟨_, _, rfl⟩⟩⟩
end Go.Proofs.YtbhfbdcmamodcaaGreatDoor
namespace Go.Proofs.YtbhfbdcmamodcaaGreatDoor
open Go.RowKit TrMath
def Words (l : Ents) : Prop := ∀ e ∈ l, 0 ≤ e.2 ∧ e.2 < 4294967296
theorem Words.get {l : Ents} (h : Words l) {k : Nat} (hk : k < l.length) : 0 ≤ l[k].2 ∧ l[k].2 < 4294967296 := h _ (List.getElem_mem hk)
end Go.Proofs.YtbhfbdcmamodcaaGreatDoor
namespace Go.Proofs.YtbhfbdcmamodcaaGreatDoor
open Go.RowKit TrMath
def wrg (l : Ents) (k : Nat) : Int :=
  match l[k]? with
  | none => 0
  | some e => if 255 < e.1.size then 5 else if e.2 = 0 then 1 else if k = 0 then 0 else
    match l[k - 1]? with
    | none => 0
    | some q => if e.1 = q.1 then 11 else if ltB e.1 q.1 = true then 10 else 0
def chkL (l : Ents) : Int := match (List.range l.length).find? (fun k => decide (wrg l k ≠ 0)) with | some k => wrg l k | none => 0
theorem chk_none {l : Ents} (h : ∀ j, j < l.length → wrg l j = 0) : chkL l = 0 := by
  unfold chkL
  rw [List.find?_eq_none.2 (fun x hx => by simpa using h x (List.mem_range.1 hx))]
theorem chk_first {l : Ents} {k : Nat} (hk : k < l.length) (h : ∀ j, j < k → wrg l j = 0) (hw : wrg l k ≠ 0) : chkL l = wrg l k := by
  unfold chkL
  have e : (List.range l.length).find? (fun k => decide (wrg l k ≠ 0)) = some k := by
    rw [List.find?_eq_some_iff_append]
    refine ⟨by simpa using hw, List.range k, (List.range' (k + 1) (l.length - (k + 1))), ?_, fun a ha => by simpa using h a (List.mem_range.1 ha)⟩
    rw [List.range_eq_range', List.range_eq_range', show k :: List.range' (k + 1) (l.length - (k + 1)) = List.range' k (l.length - k) from by rw [show l.length - k = (l.length - (k + 1)) + 1 from by omega, List.range'_succ]]
    have := List.range'_append_1 (s := 0) (m := k) (n := l.length - k)
    rw [Nat.zero_add, show k + (l.length - k) = l.length from by omega] at this
    exact this.symm
  rw [e]
theorem wrg_at {l : Ents} {k : Nat} {p : ByteArray} {x : Int} (hk : k < l.length) (hx : l[k] = (p, x)) :
    wrg l k = if 255 < p.size then 5 else if x = 0 then 1 else if k = 0 then 0 else match l[k - 1]? with | none => 0 | some q => if p = q.1 then 11 else if ltB p q.1 = true then 10 else 0 := by
  unfold wrg
  rw [List.getElem?_eq_getElem hk, hx]
theorem wrg_prev {l : Ents} {j : Nat} {p q : ByteArray} {x y : Int} (hk : j + 1 < l.length) (hx : l[j + 1] = (p, x)) (hq : l[j] = (q, y)) :
    wrg l (j + 1) = if 255 < p.size then 5 else if x = 0 then 1 else if p = q then 11 else if ltB p q = true then 10 else 0 := by
  rw [wrg_at hk hx, if_neg (show ¬ j + 1 = 0 by omega), Nat.add_sub_cancel, List.getElem?_eq_getElem (by omega), hq]
theorem chk_good {l : Ents} (h : TrMath.Good l) : chkL l = 0 := chk_none fun j hj => by
  obtain ⟨p, x, hx⟩ : ∃ p x, l[j] = (p, x) := ⟨_, _, rfl⟩
  have h1 := h.short l[j] (List.getElem_mem hj)
  have h2 := h.nz l[j] (List.getElem_mem hj)
  rw [hx] at h1 h2
  simp only at h1 h2
  rw [wrg_at hj hx, if_neg (by omega), if_neg h2]
  rcases j with _ | j
  · rfl
  · rw [if_neg (by omega), Nat.add_sub_cancel, List.getElem?_eq_getElem (by omega)]
    have h3 := List.pairwise_iff_getElem.1 h.asc j (j + 1) (by omega) hj (by omega)
    rw [hx] at h3
    show (if p = l[j].1 then (11 : Int) else if ltB p l[j].1 = true then 10 else 0) = 0
    rw [if_neg (fun e => ltB_ne h3 e.symm), if_neg (by rw [ltB_asym h3]; simp)]
set_option maxHeartbeats 4000000 in
set_option maxRecDepth 100000 in
theorem tCheck (l : Ents) (a : Option Addr) (c : Nat) (hl : l.length ≤ maxLen) (w : World) (h : EnAt w a l) :
    Calls Tryz.prog 70 #[.slice a l.length c] w fun e w' => e = .returned (.int .i64 (chkL l)) ∧ Below w.heap.size w w' := by
  unfold maxLen at hl
  have HA := Lib.hid h
  clear h
  go_enter Tryz.func70, Tryz.ntmps70
  go_wp2
  go_loopw [7] (fun iv wr => ∃ k : Nat, k ≤ l.length ∧ iv = .int .i64 k ∧ (∀ j, j < k → wrg l j = 0) ∧ Below w.heap.size w wr) (fun iv _ => l.length - (intOf iv).toNat)
  case atStart => exact ⟨0, Nat.zero_le _, rfl, fun j h => absurd h (Nat.not_lt_zero _), Below.refl _ _⟩
  case round =>
    obtain ⟨k, hk, rfl, hno, hbel⟩ := hrel
    have HNO := Lib.hid hno; have HB := Lib.hid hbel
    clear hno hbel
    by_cases hlt : k < l.length
    · obtain ⟨b1, o1, rfl, hb1, p1, p2⟩ := HA.out.below HB.out k hlt
      obtain ⟨p, x, hx⟩ : ∃ p x, l[k] = (p, x) := ⟨_, _, rfl⟩
      rw [hx] at p1 p2
      have HW := Lib.hid (wrg_at hlt hx)
      by_cases hp : 255 < p.size
      · have hpz : decide (255 < (p.size : Int)) = true := by simp; omega
        have HR := Lib.hid (show chkL l = 5 by rw [chk_first hlt HNO.out (by rw [HW.out, if_pos hp]; decide), HW.out, if_pos hp])
        clear hx hp
        go_wp2
        go_ret
        exact ⟨by rw [HR.out]; rfl, bl_alloc HB.out _⟩
      · have hpz : decide (255 < (p.size : Int)) = false := by simp; omega
        by_cases hz : x = 0
        · subst hz
          have HR := Lib.hid (show chkL l = 1 by rw [chk_first hlt HNO.out (by rw [HW.out, if_neg hp, if_pos rfl]; decide), HW.out, if_neg hp, if_pos rfl])
          clear hx hp
          go_wp2
          go_ret
          exact ⟨by rw [HR.out]; rfl, bl_alloc HB.out _⟩
        · have hz' : (x == 0) = false := by simpa using hz
          rcases k with _ | j
          · have HN := Lib.hid (show wrg l 0 = 0 by rw [HW.out, if_neg hp, if_neg hz, if_pos rfl])
            clear hx hp hz
            rw [Nat.zero_mul, Nat.add_zero] at p1 p2
            go_wp2
            go_quiet (fail)
            go_wp2
            go_quiet (fail)
            go_wp2
            go_roundw
            case rel => exact ⟨1, by omega, by first | rfl | go_num, fun j h => by
              obtain rfl : j = 0 := by omega
              exact HN.out, by first | exact bl_drewN (bl_alloc HB.out _) _ | exact bl_drewN (bl_drewN (bl_alloc HB.out _) _) _⟩
            case measure => simp [intOf]; omega
          · obtain ⟨b2, o2, hbb, hb2, q1, q2⟩ := HA.out.below HB.out j (by omega)
            cases hbb
            obtain ⟨q, y, hy⟩ : ∃ q y, l[j] = (q, y) := ⟨_, _, rfl⟩
            rw [hy] at q1
            have HW2 := Lib.hid (wrg_prev hlt hx hy)
            have hj1 : (0 : Int) < (j : Int) + 1 := by omega
            have hwz : IntKind.i64.wrap (j : Int) = (j : Int) := IntWalk.i64_in _ (by omega)
            have hjl : (j : Int) < l.length := by omega
            have hjl2 : (j : Int) + 1 < l.length := by omega
            clear hx hy q2
            by_cases he : p = q
            · subst he
              have hee : (p.toList == p.toList) = true := by simp
              have HR := Lib.hid (show chkL l = 11 by rw [chk_first hlt HNO.out (by rw [HW2.out, if_neg hp, if_neg hz, if_pos rfl]; decide), HW2.out, if_neg hp, if_neg hz, if_pos rfl])
              clear hp hz
              go_wp2
              go_quiet (fail)
              go_wp2
              go_ret
              exact ⟨by rw [HR.out]; rfl, by first | exact bl_drewN (bl_alloc HB.out _) _ | exact bl_drewN (bl_drewN (bl_alloc HB.out _) _) _⟩
            · have hee : (p.toList == q.toList) = false := str_eq he
              by_cases hlt2 : ltB p q = true
              · have hbl : Op.bytesLess p.toList q.toList = true := by rw [bless]; exact hlt2
                have HR := Lib.hid (show chkL l = 10 by rw [chk_first hlt HNO.out (by rw [HW2.out, if_neg hp, if_neg hz, if_neg he, if_pos hlt2]; decide), HW2.out, if_neg hp, if_neg hz, if_neg he, if_pos hlt2])
                clear hp hz he hlt2
                go_wp2
                go_quiet (fail)
                go_wp2
                go_quiet (fail)
                go_wp2
                go_ret
                exact ⟨by rw [HR.out]; rfl, by first | exact bl_drewN (bl_alloc HB.out _) _ | exact bl_drewN (bl_drewN (bl_alloc HB.out _) _) _⟩
              · have hbl : Op.bytesLess p.toList q.toList = false := by rw [bless]; simpa using hlt2
                have HN := Lib.hid (show wrg l (j + 1) = 0 by rw [HW2.out, if_neg hp, if_neg hz, if_neg he, if_neg hlt2])
                clear hp hz he hlt2
                go_wp2
                go_quiet (fail)
                go_wp2
                go_quiet (fail)
                go_wp2
                go_roundw
                case rel => exact ⟨j + 2, by omega, by go_num, fun i h => by
                  rcases Nat.lt_or_ge i (j + 1) with h1 | h1
                  · exact HNO.out i h1
                  · obtain rfl : i = j + 1 := by omega
                    exact HN.out, by first | exact bl_drewN (bl_alloc HB.out _) _ | exact bl_drewN (bl_drewN (bl_alloc HB.out _) _) _⟩
                case measure => simp [intOf]; omega
    · have HR := Lib.hid (show chkL l = 0 from chk_none fun j hj => HNO.out j (by omega))
      go_wp2
      go_ret
      exact ⟨by rw [HR.out]; rfl, HB.out⟩
end Go.Proofs.YtbhfbdcmamodcaaGreatDoor
namespace Go.Proofs.YtbhfbdcmamodcaaGreatDoor
open Go.RowKit TrMath
abbrev Chs := List (ByteArray × Int × Int)
def ChAt (w : World) (a : Option Addr) (l : Chs) : Prop := ∀ i (h : i < l.length), ∃ b off, a = some ⟨b, off, none⟩ ∧ b < w.heap.size ∧ w.cell? ⟨b, off + i * 3, none⟩ = some (.string l[i].1) ∧ w.cell? ⟨b, off + i * 3 + 1, none⟩ = some (.int .u32 l[i].2.1) ∧ w.cell? ⟨b, off + i * 3 + 2, none⟩ = some (.int .u32 l[i].2.2)
theorem ChAt.below {w w' : World} {a : Option Addr} {l : Chs} (h : ChAt w a l) (hb : Below w.heap.size w w') : ChAt w' a l := fun i hi => by
  obtain ⟨b, off, h1, h0, h2, h3, h4⟩ := h i hi
  have e := hb.block b h0
  exact ⟨b, off, h1, Nat.lt_of_lt_of_le h0 hb.size, by rw [World.cell?_of_block e]; exact h2, by rw [World.cell?_of_block e]; exact h3, by rw [World.cell?_of_block e]; exact h4⟩
theorem ChAt.take {w : World} {a : Option Addr} {l : Chs} (h : ChAt w a l) (n : Nat) : ChAt w a (l.take n) := fun i hi => by
  have hl : i < l.length := by rw [List.length_take] at hi; omega
  obtain ⟨b, off, h1, h0, h2, h3, h4⟩ := h i hl
  exact ⟨b, off, h1, h0, by rw [List.getElem_take]; exact h2, by rw [List.getElem_take]; exact h3, by rw [List.getElem_take]; exact h4⟩
end Go.Proofs.YtbhfbdcmamodcaaGreatDoor
namespace Go.Proofs.YtbhfbdcmamodcaaGreatDoor
open Go.RowKit TrMath
theorem infoChange : (Tryz.prog.info? 260).map (fun i => (i.zero, i.size, i.bytes)) = some (some (.agg #[.string ⟨#[]⟩, .int .u32 0, .int .u32 0]), 3, 24) := by kernel_rfl
def chCells (l : Chs) : List Value := l.flatMap fun e => [.string e.1, .int .u32 e.2.1, .int .u32 e.2.2]
theorem chCells_snoc (l : Chs) (p : ByteArray) (u v : Int) : chCells (l ++ [(p, u, v)]) = chCells l ++ [.string p, .int .u32 u, .int .u32 v] := by simp [chCells]
theorem chCells_get (l : Chs) : ∀ i (h : i < l.length), (chCells l)[i * 3]? = some (.string l[i].1) ∧ (chCells l)[i * 3 + 1]? = some (.int .u32 l[i].2.1) ∧ (chCells l)[i * 3 + 2]? = some (.int .u32 l[i].2.2) := by
  induction l with
  | nil => intro i h; simp at h
  | cons f r ih =>
    intro i h
    match i, h with
    | 0, _ => exact ⟨rfl, rfl, rfl⟩
    | i + 1, h =>
      have := ih i (by simpa using h)
      have e : chCells (f :: r) = .string f.1 :: .int .u32 f.2.1 :: .int .u32 f.2.2 :: chCells r := rfl
      rw [e, show (i + 1) * 3 = i * 3 + 1 + 1 + 1 from by omega]
      simp only [List.getElem?_cons_succ, List.getElem_cons_succ]
      exact this
def OwnC (w : World) (B : Nat) (v : Value) (l : Chs) : Prop := w.ownsRow B 260 3 v l.length (chCells l)
theorem OwnC.nil (w : World) (B : Nat) : OwnC w B (.slice none 0 0) [] := World.ownsRow_nil _ _ _ _
theorem OwnC.at {w : World} {B : Nat} {v : Value} {l : Chs} (h : OwnC w B v l) : ∃ a c, v = .slice a l.length c ∧ ChAt w a l ∧ l.length ≤ c ∧ c ≤ maxLen := by
  rcases h.2 with ⟨rfl, h0⟩ | ⟨g, cap, cur, rfl, hgb, hh, hnc, hcm, hcs, htake⟩
  · exact ⟨none, 0, by rw [h0], fun i hi => by omega, by omega, by simp [maxLen]⟩
  · refine ⟨_, _, rfl, fun i hi => ?_, hnc, hcm⟩
    obtain ⟨h1, h2, h3⟩ := chCells_get l i hi
    refine ⟨g, 0, rfl, (Array.getElem?_eq_some_iff.1 hh).1, ?_, ?_, ?_⟩
    · rw [Nat.zero_add, World.ownsRow.cellAt h _ (by omega)]; exact h1
    · rw [Nat.zero_add, World.ownsRow.cellAt h _ (by omega)]; exact h2
    · rw [Nat.zero_add, World.ownsRow.cellAt h _ (by omega)]; exact h3
theorem OwnC.mono {w : World} {B C : Nat} {v : Value} {l : Chs} (h : OwnC w B v l) (hc : C ≤ B) : OwnC w C v l := by
  refine ⟨h.1, ?_⟩
  rcases h.2 with h2 | ⟨g, cap, cur, hvv, hgb, r⟩
  · exact .inl h2
  · exact .inr ⟨g, cap, cur, hvv, by omega, r⟩
theorem OwnC.lt {w : World} {B : Nat} {v : Value} {l : Chs} (h : OwnC w B v l) : ∀ k, v.ownBlock = some k → B ≤ k ∧ k < w.heap.size := World.ownsRow.lt h
theorem OwnC.keep {w w' : World} {B : Nat} {v : Value} {l : Chs} (h : OwnC w B v l) (hk : ∀ k, v.ownBlock = some k → w'.heap[k]? = w.heap[k]?) : OwnC w' B v l := by
  refine ⟨h.1, ?_⟩
  rcases h.2 with h2 | ⟨g, cap, cur, hvv, hgb, hh, r⟩
  · exact .inl h2
  · exact .inr ⟨g, cap, cur, hvv, hgb, by rw [hk g (by rw [hvv]; rfl)]; exact hh, r⟩
theorem OwnC.below {w w' : World} {B : Nat} {v : Value} {l : Chs} (h : OwnC w B v l) (hb : Below w.heap.size w w') : OwnC w' B v l :=
  h.keep fun k hk => hb.block k (h.lt k hk).2
theorem OwnC.push {w1 : World} {B : Nat} {v1 : Value} {l : Chs} {p : ByteArray} {x y : Int} (h : w1.ownsRow B 260 3 v1 (l.length + 1) (chCells l ++ [.string p, .int .u32 x, .int .u32 y])) : OwnC w1 B v1 (l ++ [(p, x, y)]) := by
  unfold OwnC
  rw [List.length_append, chCells_snoc]
  exact h
theorem cells_trip (w : World) (u v x : Value) (t : TypeId) : ∀ (j : Nat) y, [u, v, x][j]? = some y → (w.alloc (.cells #[u, v, x] t)).cell? ((⟨w.heap.size, 0, none⟩ : Addr).add j) = some y := by
  intro j y hj
  match j, hj with
  | 0, hj =>
    simp at hj
    subst hj
    show (w.alloc (.cells #[u, v, x] t)).cell? ⟨w.heap.size, 0, none⟩ = _
    rw [World.cell?_alloc_new]
    rfl
  | 1, hj =>
    simp at hj
    subst hj
    rw [show (⟨w.heap.size, 0, none⟩ : Addr).add 1 = ⟨w.heap.size, 1, none⟩ from rfl, World.cell?_alloc_mark]
    rfl
  | 2, hj =>
    simp at hj
    subst hj
    rw [show (⟨w.heap.size, 0, none⟩ : Addr).add 2 = ⟨w.heap.size, 2, none⟩ from rfl, World.cell?_alloc_mark]
    rfl
theorem one_trip (p : ByteArray) (v x : Int) : ∀ u ∈ [Value.string p, .int .u32 v, .int .u32 x], u.oneCell' = true := by
  intro u hu
  simp at hu
  rcases hu with rfl | rfl | rfl <;> rfl
def slLen : Value → Nat
  | .slice _ n _ => n
  | _ => 0
theorem EnAt.tail {w : World} {b off : Nat} {e : ByteArray × Int} {l : Ents} (h : EnAt w (some ⟨b, off, none⟩) (e :: l)) : EnAt w (some ⟨b, off + 2, none⟩) l := fun i hi => by
  obtain ⟨b', off', h1, h0, h2, h3⟩ := h (i + 1) (by simpa using hi)
  cases h1
  exact ⟨b, off + 2, rfl, h0, by rw [show off + 2 + i * 2 = off + (i + 1) * 2 from by omega]; simpa using h2, by rw [show off + 2 + i * 2 = off + (i + 1) * 2 from by omega]; simpa using h3⟩
theorem EnAt.head {w : World} {a : Option Addr} {e : ByteArray × Int} {l : Ents} (h : EnAt w a (e :: l)) : ∃ b off, a = some ⟨b, off, none⟩ ∧ b < w.heap.size ∧ w.cell? ⟨b, off, none⟩ = some (.string e.1) ∧ w.cell? ⟨b, off + 1, none⟩ = some (.int .u32 e.2) := by
  obtain ⟨b, off, h1, h0, h2, h3⟩ := h 0 (by simp)
  exact ⟨b, off, h1, h0, by simpa using h2, by simpa using h3⟩
theorem EnAt.none (w : World) (a : Option Addr) : EnAt w a [] := fun i hi => by simp at hi
end Go.Proofs.YtbhfbdcmamodcaaGreatDoor
namespace Go.Proofs.YtbhfbdcmamodcaaGreatDoor
open Go.RowKit TrMath
structure DfAt (X Y : Ents) (w wr : World) (a b v : Value) (A B : Ents) (P : Chs) : Prop where
  sa : ∃ x c, a = .slice x A.length c ∧ A.length ≤ c ∧ c ≤ maxLen ∧ EnAt w x A
  sb : ∃ x c, b = .slice x B.length c ∧ B.length ≤ c ∧ c ≤ maxLen ∧ EnAt w x B
  own : OwnC wr w.heap.size v P
  eq : diffL X Y = P ++ diffL A B
  len : P.length + A.length + B.length ≤ X.length + Y.length
  na : ∀ e ∈ A, e.2 ≠ 0
  nb : ∀ e ∈ B, e.2 ≠ 0
  bel : Below w.heap.size w wr
def DiffSaid (X Y : Ents) (w : World) (e : Ending) (w' : World) : Prop := ∃ v, e = .returned v ∧ OwnC w' w.heap.size v (diffL X Y) ∧ Below w.heap.size w w'
theorem bl_setC {w x : World} (h : Below w.heap.size w x) {b o : Nat} (hb : w.heap.size ≤ b) (v : Value) : Below w.heap.size w (x.setCell ⟨b, o, none⟩ v) :=
  ⟨h.os, h.tape, h.output, by simp [World.setCell]; exact h.size, fun i hi => by rw [heap_setCell_other _ _ _ _ (by show i ≠ b; omega)]; exact h.block i hi⟩
theorem cells_trip' (W : World) (u v x : Value) (t : TypeId) {H : Nat} (h : W.heap.size = H) : ∀ (j : Nat) y, [u, v, x][j]? = some y → (W.alloc (.cells #[u, v, x] t)).cell? ((⟨H, 0, none⟩ : Addr).add j) = some y := by
  subst h; exact cells_trip W u v x t
theorem diff_1 {X Y A : Ents} {P : Chs} {p : ByteArray} {x : Int} (h : diffL X Y = P ++ diffL ((p, x) :: A) []) : diffL X Y = (P ++ [(p, x, 0)]) ++ diffL A [] := by
  rw [h, diffL]; simp
theorem diff_2 {X Y A : Ents} {P : Chs} {p : ByteArray} {x : Int} (h : diffL X Y = P ++ diffL [] ((p, x) :: A)) : diffL X Y = (P ++ [(p, 0, x)]) ++ diffL [] A := by
  rw [h, diffL]; simp
theorem diff_3 {X Y A B : Ents} {P : Chs} {p q : ByteArray} {x y : Int} (h : diffL X Y = P ++ diffL ((p, x) :: A) ((q, y) :: B)) (k : ltB p q = true) : diffL X Y = (P ++ [(p, x, 0)]) ++ diffL A ((q, y) :: B) := by
  rw [h, diffL, if_pos k]; simp
theorem diff_4 {X Y A B : Ents} {P : Chs} {p q : ByteArray} {x y : Int} (h : diffL X Y = P ++ diffL ((p, x) :: A) ((q, y) :: B)) (k : ltB q p = true) : diffL X Y = (P ++ [(q, 0, y)]) ++ diffL ((p, x) :: A) B := by
  rw [h, diffL, if_neg (by rw [ltB_asym k]; decide), if_pos k]; simp
theorem diff_5 {X Y A B : Ents} {P : Chs} {p : ByteArray} {x y : Int} (h : diffL X Y = P ++ diffL ((p, x) :: A) ((p, y) :: B)) (k : x ≠ y) : diffL X Y = (P ++ [(p, x, y)]) ++ diffL A B := by
  have e : ltB p p = false := Bool.eq_false_iff.2 fun c => ltB_ne c rfl
  rw [h, diffL]; simp [e, k]
theorem diff_6 {X Y A B : Ents} {P : Chs} {p : ByteArray} {x : Int} (h : diffL X Y = P ++ diffL ((p, x) :: A) ((p, x) :: B)) : diffL X Y = P ++ diffL A B := by
  have e : ltB p p = false := Bool.eq_false_iff.2 fun c => ltB_ne c rfl
  rw [h, diffL]; simp [e]
theorem sl_tail {w : World} {b o n c : Nat} {e : ByteArray × Int} {A : Ents} (h : EnAt w (some ⟨b, o, none⟩) (e :: A)) (hn : A.length = n) (h1 : n + 1 ≤ c) (h2 : c ≤ maxLen) : ∃ x d, Value.slice (if c = 1 then some ⟨b, o, none⟩ else some ⟨b, o + 2, none⟩) n (c - 1) = .slice x A.length d ∧ A.length ≤ d ∧ d ≤ maxLen ∧ EnAt w x A := by
  subst hn
  split
  · rename_i k
    obtain rfl : A = [] := List.eq_nil_of_length_eq_zero (by omega)
    exact ⟨_, _, rfl, by simp, by omega, EnAt.none _ _⟩
  · exact ⟨_, _, rfl, by omega, by omega, h.tail⟩
theorem sl_tail1 {w : World} {b o n : Nat} {A : Ents} (hn : A.length = n) (h1 : n + 1 ≤ 1) : ∃ x d, Value.slice (some ⟨b, o, none⟩) n 0 = .slice x A.length d ∧ A.length ≤ d ∧ d ≤ maxLen ∧ EnAt w x A := by
  subst hn
  obtain rfl : A = [] := List.eq_nil_of_length_eq_zero (by omega)
  exact ⟨_, _, rfl, by simp, by simp [maxLen], EnAt.none _ _⟩
theorem sl_tail2 {w : World} {b o n c : Nat} {e : ByteArray × Int} {A : Ents} (h : EnAt w (some ⟨b, o, none⟩) (e :: A)) (hn : A.length = n) (h1 : n + 1 ≤ c) (h2 : c ≤ maxLen) : ∃ x d, Value.slice (some ⟨b, o + 2, none⟩) n (c - 1) = .slice x A.length d ∧ A.length ≤ d ∧ d ≤ maxLen ∧ EnAt w x A := by
  subst hn; exact ⟨_, _, rfl, by omega, by omega, h.tail⟩
theorem box_two {w : World} {b i j : Nat} {cs ds : Array Value} {t : TypeId} (h : w.heap[b]? = some (.cells cs t (0, 0))) (u v : Value) (e : (cs.setIfInBounds i u).setIfInBounds j v = ds) : (w.setCell ⟨b, i, none⟩ u).setCell ⟨b, j, none⟩ v = w.setRow b ds := by
  have h1 := heap_setCell_same w b i cs t u h
  rw [setCell_eq_setRow _ b j _ t (0, 0) v h1, setCell_eq_setRow _ b i _ t (0, 0) u h, setRow_setRow, e]
theorem box_set {w : World} {b i j : Nat} {cs ds : Array Value} {t : TypeId} (h : w.heap[b]? = some (.cells cs t (0, 0))) (u v : Value) (e : (cs.setIfInBounds i u).setIfInBounds j v = ds) : (((w.setCell ⟨b, i, none⟩ u).setCell ⟨b, j, none⟩ v).drew).heap[b]? = some (.cells ds t (0, 0)) := by
  subst e
  exact heap_setCell_same _ b j _ t v (heap_setCell_same w b i cs t u h)
structure CBox (w : World) (b : Nat) (p : ByteArray) (x y : Int) : Prop where
  row : w.heap[b]? = some (.cells #[.string p, .int .u32 x, .int .u32 y] 260 (0, 0))
theorem CBox.cells {w : World} {b : Nat} {p : ByteArray} {x y : Int} (h : CBox w b p x y) : w.cell? ⟨b, 0, none⟩ = some (.string p) ∧ w.cell? ⟨b, 1, none⟩ = some (.int .u32 x) ∧ w.cell? ⟨b, 2, none⟩ = some (.int .u32 y) ∧ w.frozen? ⟨b, 0, none⟩ = false ∧ w.frozen? ⟨b, 1, none⟩ = false ∧ w.frozen? ⟨b, 2, none⟩ = false :=
  ⟨by rw [cell_of_row _ _ _ _ _ _ h.row]; rfl, by rw [cell_of_row _ _ _ _ _ _ h.row]; rfl, by rw [cell_of_row _ _ _ _ _ _ h.row]; rfl, frozen_of_row _ _ _ _ _ h.row, frozen_of_row _ _ _ _ _ h.row, frozen_of_row _ _ _ _ _ h.row⟩
theorem CBox.old {w : World} {b : Nat} {p q : ByteArray} {x y z : Int} (h : CBox w b p x y) : (w.setCell ⟨b, 1, none⟩ (.int .u32 z)).setCell ⟨b, 0, none⟩ (.string q) = (w.setCell ⟨b, 0, none⟩ (.string q)).setCell ⟨b, 1, none⟩ (.int .u32 z) ∧ CBox ((w.setCell ⟨b, 0, none⟩ (.string q)).setCell ⟨b, 1, none⟩ (.int .u32 z)).drew b q z y :=
  ⟨by rw [box_two h.row _ _ rfl, box_two h.row _ _ rfl]; rfl, ⟨box_set h.row _ _ rfl⟩⟩
theorem CBox.new {w : World} {b : Nat} {p q : ByteArray} {x y z : Int} (h : CBox w b p x y) : (w.setCell ⟨b, 2, none⟩ (.int .u32 z)).setCell ⟨b, 0, none⟩ (.string q) = (w.setCell ⟨b, 0, none⟩ (.string q)).setCell ⟨b, 2, none⟩ (.int .u32 z) ∧ CBox ((w.setCell ⟨b, 0, none⟩ (.string q)).setCell ⟨b, 2, none⟩ (.int .u32 z)).drew b q x z :=
  ⟨by rw [box_two h.row _ _ rfl, box_two h.row _ _ rfl]; rfl, ⟨box_set h.row _ _ rfl⟩⟩
theorem gb_over {w v x y : World} {r : Option Nat} (h : Below w.heap.size w v) (k : Below v.heap.size v x) (g : x.grownBy y r) (hr : ∀ i, r = some i → w.heap.size ≤ i) : Below w.heap.size w y :=
  gb_to_below (bl_trans h k) g (bl_trans h k).size hr
set_option maxHeartbeats 20000000 in
set_option maxRecDepth 100000 in
theorem tDiff (X Y : Ents) (hX : ∀ e ∈ X, e.2 ≠ 0) (hY : ∀ e ∈ Y, e.2 ≠ 0) (a b : Option Addr) (c d : Nat) (hc : X.length ≤ c) (hd : Y.length ≤ d) (hcm : c ≤ maxLen) (hdm : d ≤ maxLen) (hl : X.length + Y.length ≤ 1000000000) (w : World) (h : EnAt w a X) (k : EnAt w b Y) :
    Calls Tryz.prog 161 #[.slice a X.length c, .slice b Y.length d] w (DiffSaid X Y w) := by
  obtain ⟨i0, hi, hz0, hz1, hz2⟩ := info_parts infoChange
  have HST := Lib.hid (show DfAt X Y w w (.slice a X.length c) (.slice b Y.length d) (.slice none 0 0) X Y [] from ⟨⟨_, _, rfl, hc, hcm, h⟩, ⟨_, _, rfl, hd, hdm, k⟩, OwnC.nil _ _, rfl, by simp, hX, hY, Below.refl _ _⟩)
  have HBP := Lib.hid (fun p v q W => tByPath p v q W)
  clear hX hY h k hc hd hcm hdm
  go_enter Tryz.func161, Tryz.ntmps161
  go_wp2
  go_loopw [0, 1, 5] (fun av bv lv wr => ∃ A B P, DfAt X Y w wr av bv lv A B P) (fun av bv _ _ => slLen av + slLen bv)
  case atStart => exact ⟨_, _, _, HST.out⟩
  case round =>
    obtain ⟨A, B, P, hat⟩ := hrel
    obtain ⟨a1, c1, rfl, hA1, hA2, hA3⟩ := hat.sa
    obtain ⟨b1, d1, rfl, hB1, hB2, hB3⟩ := hat.sb
    have HO := Lib.hid hat.own; have HE := Lib.hid hat.eq; have HNA := Lib.hid hat.na; have HNB := Lib.hid hat.nb; have HB := Lib.hid hat.bel
    have hln := hat.len
    have hws := hat.bel.size
    have HA := Lib.hid hA3; have HBB := Lib.hid hB3
    clear hat hA3 hB3
    cases A with
    | nil =>
      cases B with
      | nil =>
        have HR := Lib.hid (show diffL X Y = P by rw [HE.out, diffL]; simp)
        go_wp2
        go_ret
        exact ⟨_, rfl, by rw [HR.out]; exact HO.out, HB.out⟩
      | cons e B =>
        obtain ⟨ab, ao, rfl, hab, p1, p2⟩ := (HBB.out).head
        obtain ⟨p, x⟩ := e
        have hx : (x == 0) = false := by have := HNB.out (p, x) (by simp); simpa using this
        have hx2 : ((0 : Int) == x) = false := by have := hx; simp at this ⊢; omega
        have hx3 : ((0 : Int) != x) = true := by simp [bne, hx2]
        have hx' : (x != 0) = true := by simp [bne, hx]
        have HE2 := Lib.hid (diff_2 HE.out)
        obtain ⟨n, hn⟩ : ∃ n, B.length = n := ⟨_, rfl⟩
        simp only [List.length_cons, List.length_nil, hn] at hB1 hln ⊢
        have HN := Lib.hid hn
        have g1 := bl_cell HB.out p1
        have g2 := bl_cell HB.out p2
        have HP1 := fun o => bl_cell (bl_alloc (Below.refl _ wr) o) g1
        have HP2 := fun o => bl_cell (bl_alloc (Below.refl _ wr) o) g2
        clear g1 g2 p1 p2 hn
        go_wp2_with fail
        go_region
        all_goals go_wp2_with (refine wpList_append_lies _ rfl (.tmp 73) (.tmp 75) 257 rfl w.heap.size 260 i0 (.agg #[.string ⟨#[]⟩, .int .u32 0, .int .u32 0]) 3 24 Tryz.underlying257 hi hz0 hz1 hz2 rfl (by decide) _ P.length (chCells P) rfl (HO.out.below ?hb1) ⟨wr.heap.size + 1, 0, none⟩ 1 1 [.string p, .int .u32 0, .int .u32 x] rfl rfl (cells_trip' _ _ _ _ _ (by simp)) (one_trip _ _ _) (by decide) (by unfold maxLen; omega) (by omega) (by simp; omega) (wr.heap.size + 2) (by simp) ?_; (case hb1 => exact (bl_alloc (bl_drew (bl_alloc (Below.refl _ wr) _)) _)); intro gg cp w5 hown hg hat hlt5; have HO5 := Lib.hid hown; have HB5 := Lib.hid (gb_to_below (bl_alloc (bl_drew (bl_alloc HB.out _)) _) hg (bl_alloc (bl_drew (bl_alloc HB.out _)) _).size (fun i hi => (HO.out.lt i hi).1)); clear hown hg hat hlt5)
        all_goals go_roundw
        case rel => exact ⟨_, _, _, ⟨⟨_, _, rfl, hA1, hA2, HA.out⟩, by exact sl_tail HBB.out HN.out (by omega) hB2, OwnC.push HO5.out, HE2.out, by have h1 := HN.out; rw [List.length_append]; simp; omega, HNA.out, fun e he => HNB.out e (by simp [he]), HB5.out⟩⟩
        case measure => simp [slLen]
    | cons e A =>
      cases B with
      | nil =>
        obtain ⟨ab, ao, rfl, hab, p1, p2⟩ := (HA.out).head
        obtain ⟨p, x⟩ := e
        have hx : (x == 0) = false := by have := HNA.out (p, x) (by simp); simpa using this
        have hx' : (x != 0) = true := by simp [bne, hx]
        have HE2 := Lib.hid (diff_1 HE.out)
        obtain ⟨n, hn⟩ : ∃ n, A.length = n := ⟨_, rfl⟩
        simp only [List.length_cons, List.length_nil, hn] at hA1 hln ⊢
        have HN := Lib.hid hn
        have g1 := bl_cell HB.out p1
        have g2 := bl_cell HB.out p2
        have HP1 := fun o => bl_cell (bl_alloc (Below.refl _ wr) o) g1
        have HP2 := fun o => bl_cell (bl_alloc (Below.refl _ wr) o) g2
        clear g1 g2 p1 p2 hn
        go_wp2_with fail
        go_region
        all_goals go_wp2_with (refine wpList_append_lies _ rfl (.tmp 73) (.tmp 75) 257 rfl w.heap.size 260 i0 (.agg #[.string ⟨#[]⟩, .int .u32 0, .int .u32 0]) 3 24 Tryz.underlying257 hi hz0 hz1 hz2 rfl (by decide) _ P.length (chCells P) rfl (HO.out.below ?hb1) ⟨wr.heap.size + 1, 0, none⟩ 1 1 [.string p, .int .u32 x, .int .u32 0] rfl rfl (cells_trip' _ _ _ _ _ (by simp)) (one_trip _ _ _) (by decide) (by unfold maxLen; omega) (by omega) (by simp; omega) (wr.heap.size + 2) (by simp) ?_; (case hb1 => exact (bl_alloc (bl_drew (bl_alloc (Below.refl _ wr) _)) _)); intro gg cp w5 hown hg hat hlt5; have HO5 := Lib.hid hown; have HB5 := Lib.hid (gb_to_below (bl_alloc (bl_drew (bl_alloc HB.out _)) _) hg (bl_alloc (bl_drew (bl_alloc HB.out _)) _).size (fun i hi => (HO.out.lt i hi).1)); clear hown hg hat hlt5)
        all_goals go_roundw
        case rel => exact ⟨_, _, _, ⟨(by first | exact sl_tail HA.out HN.out (by omega) hA2 | exact sl_tail1 HN.out (by omega) | exact sl_tail2 HA.out HN.out (by omega) hA2), ⟨_, _, rfl, hB1, hB2, HBB.out⟩, OwnC.push HO5.out, HE2.out, by have h1 := HN.out; rw [List.length_append]; simp; omega, fun e he => HNA.out e (by simp [he]), HNB.out, HB5.out⟩⟩
        case measure => simp [slLen]
      | cons f B =>
        obtain ⟨ab, ao, rfl, hab, p1, p2⟩ := (HA.out).head
        obtain ⟨bb, bo, rfl, hbb, q1, q2⟩ := (HBB.out).head
        obtain ⟨p, x⟩ := e
        obtain ⟨q, y⟩ := f
        obtain ⟨n, hn⟩ : ∃ n, A.length = n := ⟨_, rfl⟩
        obtain ⟨m, hm⟩ : ∃ m, B.length = m := ⟨_, rfl⟩
        have hab' : ab < wr.heap.size := by omega
        have hbb' : bb < wr.heap.size := by omega
        have hx : (x == 0) = false := by have := HNA.out (p, x) (by simp); simpa using this
        have hx' : (x != 0) = true := by simp [bne, hx]
        have hy2 : ((0 : Int) == y) = false := by have := HNB.out (q, y) (by simp); simp at this ⊢; omega
        have hy3 : ((0 : Int) != y) = true := by simp [bne, hy2]
        obtain ⟨r, hr⟩ : ∃ r, cmpP p q = r := ⟨_, rfl⟩
        have HR := Lib.hid (fun W => (show Calls Tryz.prog 210 #[.agg #[.string p, .int .u32 x], .string q] W fun e w' => e = .returned (.int .i64 r) ∧ Below W.heap.size W w' by rw [← hr]; exact HBP.out p x q W))
        have hlt := cmpP_lt p q; have heq := cmpP_eq p q
        rw [hr] at hlt heq
        simp only [List.length_cons, List.length_nil, hn, hm] at hA1 hB1 hln ⊢
        have HN := Lib.hid hn; have HM := Lib.hid hm
        have g1 := bl_cell HB.out p1
        have g2 := bl_cell HB.out p2
        have g3 := bl_cell HB.out q1
        have g4 := bl_cell HB.out q2
        have HP1 := bl_cell (bl_alloc (Below.refl _ wr) (.cells #[.string ⟨#[]⟩, .int .u32 0, .int .u32 0] 260)) g1
        have HP2 := bl_cell (bl_alloc (Below.refl _ wr) (.cells #[.string ⟨#[]⟩, .int .u32 0, .int .u32 0] 260)) g2
        have HP3 := bl_cell (bl_alloc (Below.refl _ wr) (.cells #[.string ⟨#[]⟩, .int .u32 0, .int .u32 0] 260)) g3
        have HP4 := bl_cell (bl_alloc (Below.refl _ wr) (.cells #[.string ⟨#[]⟩, .int .u32 0, .int .u32 0] 260)) g4
        have HG := Lib.hid (And.intro (And.intro g1 g2) (And.intro g3 g4))
        clear g1 g2 g3 g4 p1 p2 q1 q2 hn hm hr
        go_wp2_with fail
        go_region_held3 (fun w' => w'.cell? ⟨ab, ao, none⟩ = some (.string p) ∧ w'.cell? ⟨ab, ao + 1, none⟩ = some (.int .u32 x) ∧ w'.cell? ⟨bb, bo, none⟩ = some (.string q) ∧ w'.cell? ⟨bb, bo + 1, none⟩ = some (.int .u32 y))
          (first | exact HCY.out | exact ⟨HP1, HP2, HP3, HP4⟩)
          (first | (go_at_call 210; (with_reducible refine (HR.out _).mono ?_); rintro r w4 ⟨rfl, hb⟩; have hb4 := bl_trans (bl_drew (Below.refl _ (wr.alloc (.cells #[.string ⟨#[]⟩, .int .u32 0, .int .u32 0] 260)))) hb; have HB4 := Lib.hid hb4; have HCY := Lib.hid (show w4.cell? ⟨ab, ao, none⟩ = some (.string p) ∧ w4.cell? ⟨ab, ao + 1, none⟩ = some (.int .u32 x) ∧ w4.cell? ⟨bb, bo, none⟩ = some (.string q) ∧ w4.cell? ⟨bb, bo + 1, none⟩ = some (.int .u32 y) from ⟨bl_cell hb4 HP1, bl_cell hb4 HP2, bl_cell hb4 HP3, bl_cell hb4 HP4⟩); clear hb hb4))
        have hb0 := bl_trans (bl_alloc (Below.refl _ wr) (.cells #[.string ⟨#[]⟩, .int .u32 0, .int .u32 0] 260)) HB4.out
        have hw4 := hb0.size
        have HB6 := Lib.hid hb0
        have HX4 := Lib.hid (show CBox w4 wr.heap.size ⟨#[]⟩ 0 0 from ⟨by rw [HB4.out.block wr.heap.size (by simp)]; exact heap_alloc_new _ _⟩)
        clear hb0 HP1 HP2 HP3 HP4
        obtain ⟨k1, k2, k3, k4⟩ := HCY.out
        have hwz : w.heap.size ≤ w4.heap.size := by omega
        rcases Int.lt_trichotomy r 0 with hr | hr | hr
        · have HE2 := Lib.hid (diff_3 HE.out (hlt.1 hr))
          clear hlt heq
          have HX7 := Lib.hid (CBox.old HX4.out (q := p) (z := x)).2
          have hcm := (CBox.old HX4.out (q := p) (z := x)).1
          obtain ⟨x0, x1, x2, f0, f1, f2⟩ := HX4.out.cells
          have hb0 := bl_drew (bl_setC (bl_setC HB6.out (Nat.le_refl _) (o := 0) (.string p)) (Nat.le_refl _) (o := 1) (.int .u32 x))
          obtain ⟨w7, h7⟩ : ∃ w7 : World, ((w4.setCell ⟨wr.heap.size, 0, none⟩ (.string p)).setCell ⟨wr.heap.size, 1, none⟩ (.int .u32 x)).drew = w7 := ⟨_, rfl⟩
          rw [h7] at HX7 hb0
          have HW7 := Lib.hid h7
          clear h7
          go_wp2_with fail
          go_region
          all_goals rw [HW7.out]
          all_goals clear HW7 hcm x0 x1 x2 f0 f1 f2 k1 k2 k3 k4 HB6
          all_goals have HB6 := Lib.hid hb0
          all_goals obtain ⟨⟨k1, k2⟩, k3, k4⟩ := HG.out
          all_goals replace k1 := bl_cell HB6.out k1
          all_goals replace k2 := bl_cell HB6.out k2
          all_goals replace k3 := bl_cell HB6.out k3
          all_goals replace k4 := bl_cell HB6.out k4
          all_goals have hwz := Nat.le_trans hws hb0.size
          all_goals clear hb0
          all_goals obtain ⟨x0, x1, x2, f0, f1, f2⟩ := HX7.out.cells
          all_goals go_wp2_with (refine wpList_append_lies _ rfl (.tmp 73) (.tmp 75) 257 rfl w.heap.size 260 i0 (.agg #[.string ⟨#[]⟩, .int .u32 0, .int .u32 0]) 3 24 Tryz.underlying257 hi hz0 hz1 hz2 rfl (by decide) _ P.length (chCells P) rfl (HO.out.below (bl_alloc HB6.out _)) _ 1 1 [.string p, .int .u32 x, .int .u32 0] rfl rfl (cells_trip' _ _ _ _ _ rfl) (one_trip _ _ _) (by decide) (by unfold maxLen; omega) (by omega) (by simp; omega) _ rfl ?_; intro gg cp w5 hown hg hat hlt5; have HO5 := Lib.hid hown; have HB5 := Lib.hid (gb_over HB.out (bl_alloc HB6.out _) hg (fun i hi => (HO.out.lt i hi).1)); clear hown hg hat hlt5)
          all_goals go_roundw
          all_goals (first
            | exact ⟨_, _, _, (by first | exact sl_tail HA.out HN.out (by omega) hA2 | exact sl_tail1 HN.out (by omega) | exact sl_tail2 HA.out HN.out (by omega) hA2), ⟨_, _, by rw [List.length_cons, HM.out], by rw [List.length_cons, HM.out]; exact hB1, hB2, HBB.out⟩, OwnC.push HO5.out, HE2.out, by have h1 := HN.out; have h2 := HM.out; rw [List.length_append]; simp; omega, fun e he => HNA.out e (by simp [he]), HNB.out, HB5.out⟩
            | (simp [slLen]; omega)
            | (simp [slLen]; done))
        · obtain rfl := heq.1 hr
          clear hlt heq
          have HX7 := Lib.hid (CBox.old HX4.out (q := p) (z := x)).2
          have hcm := (CBox.old HX4.out (q := p) (z := x)).1
          obtain ⟨x0, x1, x2, f0, f1, f2⟩ := HX4.out.cells
          have hb0 := bl_drew (bl_setC (bl_setC HB6.out (Nat.le_refl _) (o := 0) (.string p)) (Nat.le_refl _) (o := 1) (.int .u32 x))
          obtain ⟨w7, h7⟩ : ∃ w7 : World, ((w4.setCell ⟨wr.heap.size, 0, none⟩ (.string p)).setCell ⟨wr.heap.size, 1, none⟩ (.int .u32 x)).drew = w7 := ⟨_, rfl⟩
          rw [h7] at HX7 hb0
          have HW7 := Lib.hid h7
          clear h7
          go_wp2_with fail
          go_region
          all_goals rw [HW7.out]
          all_goals clear HW7 hcm x0 x1 x2 f0 f1 f2 k1 k2 k3 k4 HB6
          all_goals have HB6 := Lib.hid hb0
          all_goals obtain ⟨⟨k1, k2⟩, k3, k4⟩ := HG.out
          all_goals replace k1 := bl_cell HB6.out k1
          all_goals replace k2 := bl_cell HB6.out k2
          all_goals replace k3 := bl_cell HB6.out k3
          all_goals replace k4 := bl_cell HB6.out k4
          all_goals have hwz := Nat.le_trans hws hb0.size
          all_goals clear hb0
          all_goals have HX8 := Lib.hid (CBox.new HX7.out (q := p) (z := y)).2
          all_goals have hcm := (CBox.new HX7.out (q := p) (z := y)).1
          all_goals obtain ⟨x0, x1, x2, f0, f1, f2⟩ := HX7.out.cells
          all_goals have hb0 := bl_drew (bl_setC (bl_setC HB6.out (Nat.le_refl _) (o := 0) (.string p)) (Nat.le_refl _) (o := 2) (.int .u32 y))
          all_goals obtain ⟨w8, h8⟩ : ∃ w8 : World, ((w7.setCell ⟨wr.heap.size, 0, none⟩ (.string p)).setCell ⟨wr.heap.size, 2, none⟩ (.int .u32 y)).drew = w8 := ⟨_, rfl⟩
          all_goals rw [h8] at HX8 hb0
          all_goals have HW8 := Lib.hid h8
          all_goals clear h8
          all_goals go_wp2_with fail
          all_goals go_region
          all_goals rw [HW8.out]
          all_goals clear HW8 hcm x0 x1 x2 f0 f1 f2 k1 k2 k3 k4 HB6
          all_goals have HB6 := Lib.hid hb0
          all_goals obtain ⟨⟨k1, k2⟩, k3, k4⟩ := HG.out
          all_goals replace k1 := bl_cell HB6.out k1
          all_goals replace k2 := bl_cell HB6.out k2
          all_goals replace k3 := bl_cell HB6.out k3
          all_goals replace k4 := bl_cell HB6.out k4
          all_goals have hwz := Nat.le_trans hws hb0.size
          all_goals clear hb0
          all_goals obtain ⟨x0, x1, x2, f0, f1, f2⟩ := HX8.out.cells
          all_goals
            by_cases hxy : x = y
            · subst hxy
              have hxx : (x != x) = false := by simp
              have HE2 := Lib.hid (diff_6 HE.out)
              all_goals go_wp2_with fail
              all_goals refine ⟨⟨_, _, _, (by first | exact sl_tail HA.out HN.out (by omega) hA2 | exact sl_tail1 HN.out (by omega) | exact sl_tail2 HA.out HN.out (by omega) hA2), (by first | exact sl_tail HBB.out HM.out (by omega) hB2 | exact sl_tail1 HM.out (by omega) | exact sl_tail2 HBB.out HM.out (by omega) hB2), HO.out.below HB6.out, HE2.out, by have h1 := HN.out; have h2 := HM.out; omega, fun e he => HNA.out e (by simp [he]), fun e he => HNB.out e (by simp [he]), bl_trans HB.out HB6.out⟩, ?_⟩
              all_goals (simp [slLen]; omega)
            · have hxx : (x != y) = true := by simpa using hxy
              have hxx2 : (x == y) = false := by simpa using hxy
              have HE2 := Lib.hid (diff_5 HE.out hxy)
              all_goals go_wp2_with (refine wpList_append_lies _ rfl (.tmp 73) (.tmp 75) 257 rfl w.heap.size 260 i0 (.agg #[.string ⟨#[]⟩, .int .u32 0, .int .u32 0]) 3 24 Tryz.underlying257 hi hz0 hz1 hz2 rfl (by decide) _ P.length (chCells P) rfl (HO.out.below (bl_alloc HB6.out _)) _ 1 1 [.string p, .int .u32 x, .int .u32 y] rfl rfl (cells_trip' _ _ _ _ _ rfl) (one_trip _ _ _) (by decide) (by unfold maxLen; omega) (by omega) (by simp; omega) _ rfl ?_; intro gg cp w5 hown hg hat hlt5; have HO5 := Lib.hid hown; have HB5 := Lib.hid (gb_over HB.out (bl_alloc HB6.out _) hg (fun i hi => (HO.out.lt i hi).1)); clear hown hg hat hlt5)
              all_goals go_roundw
              all_goals (first
                | exact ⟨_, _, _, (by first | exact sl_tail HA.out HN.out (by omega) hA2 | exact sl_tail1 HN.out (by omega) | exact sl_tail2 HA.out HN.out (by omega) hA2), (by first | exact sl_tail HBB.out HM.out (by omega) hB2 | exact sl_tail1 HM.out (by omega) | exact sl_tail2 HBB.out HM.out (by omega) hB2), OwnC.push HO5.out, HE2.out, by have h1 := HN.out; have h2 := HM.out; rw [List.length_append]; simp; omega, fun e he => HNA.out e (by simp [he]), fun e he => HNB.out e (by simp [he]), HB5.out⟩
                | (simp [slLen]; omega)
                | (simp [slLen]; done))
        · have hq : ltB q p = true := by
            rcases Bool.eq_false_or_eq_true (ltB q p) with c | c
            · exact c
            · have h1 : ltB p q = false := Bool.eq_false_iff.2 fun c2 => by have := hlt.2 c2; omega
              have := heq.2 (ltB_tri h1 c)
              omega
          have HE2 := Lib.hid (diff_4 HE.out hq)
          clear hlt heq hq
          have HX7 := Lib.hid (CBox.new HX4.out (q := q) (z := y)).2
          have hcm := (CBox.new HX4.out (q := q) (z := y)).1
          obtain ⟨x0, x1, x2, f0, f1, f2⟩ := HX4.out.cells
          have hb0 := bl_drew (bl_setC (bl_setC HB6.out (Nat.le_refl _) (o := 0) (.string q)) (Nat.le_refl _) (o := 2) (.int .u32 y))
          obtain ⟨w7, h7⟩ : ∃ w7 : World, ((w4.setCell ⟨wr.heap.size, 0, none⟩ (.string q)).setCell ⟨wr.heap.size, 2, none⟩ (.int .u32 y)).drew = w7 := ⟨_, rfl⟩
          rw [h7] at HX7 hb0
          have HW7 := Lib.hid h7
          clear h7
          go_wp2_with fail
          go_region
          all_goals rw [HW7.out]
          all_goals clear HW7 hcm x0 x1 x2 f0 f1 f2 k1 k2 k3 k4 HB6
          all_goals have HB6 := Lib.hid hb0
          all_goals obtain ⟨⟨k1, k2⟩, k3, k4⟩ := HG.out
          all_goals replace k1 := bl_cell HB6.out k1
          all_goals replace k2 := bl_cell HB6.out k2
          all_goals replace k3 := bl_cell HB6.out k3
          all_goals replace k4 := bl_cell HB6.out k4
          all_goals have hwz := Nat.le_trans hws hb0.size
          all_goals clear hb0
          all_goals obtain ⟨x0, x1, x2, f0, f1, f2⟩ := HX7.out.cells
          all_goals go_wp2_with (refine wpList_append_lies _ rfl (.tmp 73) (.tmp 75) 257 rfl w.heap.size 260 i0 (.agg #[.string ⟨#[]⟩, .int .u32 0, .int .u32 0]) 3 24 Tryz.underlying257 hi hz0 hz1 hz2 rfl (by decide) _ P.length (chCells P) rfl (HO.out.below (bl_alloc HB6.out _)) _ 1 1 [.string q, .int .u32 0, .int .u32 y] rfl rfl (cells_trip' _ _ _ _ _ rfl) (one_trip _ _ _) (by decide) (by unfold maxLen; omega) (by omega) (by simp; omega) _ rfl ?_; intro gg cp w5 hown hg hat hlt5; have HO5 := Lib.hid hown; have HB5 := Lib.hid (gb_over HB.out (bl_alloc HB6.out _) hg (fun i hi => (HO.out.lt i hi).1)); clear hown hg hat hlt5)
          all_goals go_roundw
          all_goals (first
            | exact ⟨_, _, _, ⟨_, _, by rw [List.length_cons, HN.out], by rw [List.length_cons, HN.out]; exact hA1, hA2, HA.out⟩, (by first | exact sl_tail HBB.out HM.out (by omega) hB2 | exact sl_tail1 HM.out (by omega) | exact sl_tail2 HBB.out HM.out (by omega) hB2), OwnC.push HO5.out, HE2.out, by have h1 := HN.out; have h2 := HM.out; rw [List.length_append]; simp; omega, HNA.out, fun e he => HNB.out e (by simp [he]), HB5.out⟩
            | (simp [slLen]; omega)
            | (simp [slLen]; done))
end Go.Proofs.YtbhfbdcmamodcaaGreatDoor
namespace Go.Proofs.YtbhfbdcmamodcaaGreatDoor
open Go.RowKit TrMath
theorem drop_at {X : Ents} {i : Nat} {e : ByteArray × Int} (h : i < X.length) (he : X[i] = e) : X.drop i = e :: X.drop (i + 1) := by
  rw [List.drop_eq_getElem_cons h, he]
end Go.Proofs.YtbhfbdcmamodcaaGreatDoor
