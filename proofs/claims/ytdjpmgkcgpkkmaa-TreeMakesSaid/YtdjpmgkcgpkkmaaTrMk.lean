/- Walks of layer 8: tree.Make. -/
import Derived.Test.YtdjpmgkcgpkkmaaTrS2
set_option linter.unusedVariables false
set_option linter.unusedSimpArgs false
namespace Go.Proofs.Ytdjpmgkcgpkkmaa
open Go.RowKit TrMath

theorem pick_drop {m : Ents} {k : Nat} {p : ByteArray} {v : Int} (hk : k < m.length) (hx : m[k] = (p, v)) : pickL (m.drop k) = (if v ≠ 0 ∧ (∀ h : k + 1 < m.length, m[k + 1].1 ≠ p) then [(p, v)] else []) ++ pickL (m.drop (k + 1)) := by
  rw [List.drop_eq_getElem_cons hk, hx, pickL.eq_2]
  have e : (∀ h : 0 < (m.drop (k + 1)).length, (m.drop (k + 1))[0].1 ≠ p) ↔ (∀ h : k + 1 < m.length, m[k + 1].1 ≠ p) := by
    constructor
    · intro h h1
      have := h (by simp; omega)
      simpa using this
    · intro h h1
      have h2 : k + 1 < m.length := by simp at h1; omega
      have := h h2
      simpa using this
  by_cases c : v ≠ 0 ∧ (∀ h : k + 1 < m.length, m[k + 1].1 ≠ p)
  · rw [if_pos c, if_pos ⟨c.1, e.2 c.2⟩]; rfl
  · rw [if_neg c, if_neg (fun h => c ⟨h.1, e.1 h.2⟩)]; rfl
theorem bl_drewN {w x : World} {B : Nat} (h : Below B w x) (n : Nat) : Below B w (x.drewN n) := ⟨h.os, h.tape, h.output, h.size, h.block⟩
theorem cells_pair2 (w : World) (u v : Value) (t : TypeId) (o : Obj) (n : Nat) : ∀ (j : Nat) x, [u, v][j]? = some x → (((w.alloc o).drewN n).alloc (.cells #[u, v] t)).cell? ((⟨w.heap.size + 1, 0, none⟩ : Addr).add j) = some x := by
  have := cells_pair ((w.alloc o).drewN n) u v t
  simpa using this
theorem Own.push {w1 : World} {B : Nat} {v1 : Value} {l : Ents} {p : ByteArray} {x : Int} (h : w1.ownsRow B 39 2 v1 (l.length + 1) (enCells l ++ [.string p, .int .u32 x])) : Own w1 B v1 (l ++ [(p, x)]) := by
  unfold Own
  rw [List.length_append, enCells_snoc]
  exact h
def mkE (l : Ents) : Int := if longAt l then 5 else 0
def mkT (l : Ents) : Ents := if longAt l then [] else foldP [] l
def MakeSaid (l : Ents) (w : World) (e : Ending) (w' : World) : Prop := ∃ v, e = .returned (.tuple #[v, .int .i64 (mkE l)]) ∧ Own w' w.heap.size v (mkT l) ∧ Below w.heap.size w w'
theorem long_no {l : Ents} (h : longAt l = false) : ∀ e ∈ l, e.1.size ≤ 255 := by
  intro e he
  unfold longAt at h
  have := List.any_eq_false.1 h e he
  simpa using this
theorem str_eq {p q : ByteArray} (h : q ≠ p) : (q.toList == p.toList) = false := by
  simp only [beq_eq_false_iff_ne, ne_eq, ByteArray.toList_eq]
  exact fun k => h (kB_inj k)
theorem str_ne {p q : ByteArray} (h : q ≠ p) : (q.toList != p.toList) = true := by rw [bne, str_eq h]; rfl

set_option maxHeartbeats 2000000 in
set_option maxRecDepth 100000 in
theorem tMake (l : Ents) (hS : Sorts l) (a : Option Addr) (c : Nat) (hl : l.length ≤ 1099511627776) (w : World) (h : EnAt w a l) :
    Calls Try.prog 12 #[.slice a l.length c] w (MakeSaid l w) := by
  obtain ⟨i0, hi, hz0, hz1, hz2⟩ := info_parts infoEntry
  have HC := Lib.hid (tContainsLong l a c (by unfold maxLen; omega) w h)
  have HA := Lib.hid h
  clear h
  by_cases hlong : longAt l = true
  · have HE := Lib.hid (show mkE l = 5 by unfold mkE; rw [hlong]; rfl)
    have HT := Lib.hid (show mkT l = [] by unfold mkT; rw [hlong]; rfl)
    go_enter Try.func12, Try.ntmps12
    go_wp2_with (go_at_call 34; (with_reducible refine (HC.out).mono ?_); rintro e w1 ⟨rfl, hb⟩; have HB := Lib.hid hb; clear hb)
    go_ret2
    exact ⟨.slice none 0 0, by rw [HE.out]; rfl, by rw [HT.out]; exact Own.nil _ _, HB.out⟩
  · have hlong' : longAt l = false := by simpa using hlong
    have HE := Lib.hid (show mkE l = 0 by unfold mkE; rw [hlong']; rfl)
    have HT := Lib.hid (show mkT l = foldP [] l by unfold mkT; rw [hlong']; rfl)
    have HSH := Lib.hid (long_no hlong')
    clear hlong
    have HCl := Lib.hid (fun W hW => tClone l a c hl W hW)
    have HSo := Lib.hid (fun W B v hv => hS W B v hv)
    clear hS
    go_enter Try.func12, Try.ntmps12
    go_wp2_with (first
      | (go_at_call 34; (with_reducible refine (HC.out).mono ?_); rintro e w1 ⟨rfl, hb⟩; have HB := Lib.hid hb; clear hb)
      | (go_at_call 36; (with_reducible refine (HCl.out _ (HA.out.below HB.out)).mono ?_); rintro e w2 ⟨v', rfl, hown, hb⟩; obtain ⟨sa, sc, rfl, _, _, _⟩ := Own.at hown; have HO2 := Lib.hid hown; have HB2 := Lib.hid (bl_trans HB.out hb); clear hb hown)
      | (go_at_call 37; (with_reducible refine (HSo.out _ _ _ HO2.out).mono ?_); rintro e w3 ⟨rfl, hsd⟩; obtain ⟨m, hst, hsr, hen, hgb⟩ := hsd _ _ rfl; have HST := Lib.hid hst; have HSR := Lib.hid hsr; have HEN := Lib.hid hen; have HGB := Lib.hid hgb; clear hst hsr hen hgb hsd))
    have hml : m.length = l.length := HST.out.1
    have HML := Lib.hid hml
    have HP := Lib.hid (pick_fold HSH.out HST.out HSR.out)
    have hw12 := HB.out.size
    have HB3 := Lib.hid (gb_to_below HB2.out HGB.out HB2.out.size (fun i hi => by have := (HO2.out.lt i hi).1; omega))
    clear hml
    go_loopw [5, 16] (fun tv iv wr => ∃ (v : Value) (k : Nat) (P : Ents), k ≤ l.length ∧ iv = .int .i64 k ∧ tv = v ∧ P.length ≤ k ∧ Own wr w3.heap.size v P ∧ pickL m = P ++ pickL (m.drop k) ∧ Below w3.heap.size w3 wr) (fun _ iv _ => l.length - (intOf iv).toNat)
    case atStart => exact ⟨_, 0, [], Nat.zero_le _, rfl, rfl, Nat.le_refl _, Own.nil _ _, rfl, Below.refl _ _⟩
    case round =>
      obtain ⟨v, k, P, hk, rfl, rfl, hPk, hown, hpk, hbel⟩ := hrel
      have HO := Lib.hid hown; have HPK := Lib.hid hpk; have HBL := Lib.hid hbel
      have hwz := hbel.size
      clear hown hpk hbel
      by_cases hlt : k < l.length
      · have hlm : k < m.length := by rw [HML.out]; exact hlt
        obtain ⟨b1, o1, rfl, hb1, p1, p2⟩ := HEN.out.below HBL.out k hlm
        obtain ⟨p, x, hx⟩ : ∃ p x, m[k] = (p, x) := ⟨_, _, rfl⟩
        rw [hx] at p1 p2
        have HD := Lib.hid (pick_drop hlm hx)
        have hkz : IntKind.i64.wrap ((k : Int) + 1) = (k : Int) + 1 := IntWalk.i64_in _ (by omega)
        have hk0 : (0 : Int) ≤ (k : Int) + 1 := by omega
        have hk1 : ((k : Int) + 1).toNat = k + 1 := by omega
        clear hx
        by_cases hz : x = 0
        · subst hz
          have HN := Lib.hid (show pickL m = P ++ pickL (m.drop (k + 1)) by rw [HPK.out, HD.out, if_neg (fun c => c.1 rfl)]; rfl)
          go_wp2
          go_quiet (fail)
          go_wp2
          go_roundw
          case rel => exact ⟨_, k + 1, P, by omega, by go_num, rfl, by omega, HO.out.below (bl_drewN (bl_alloc (Below.refl _ wr) _) _), HN.out, bl_drewN (bl_alloc HBL.out _) _⟩
          case measure => simp [intOf]; omega
        · have hz' : (x != 0) = true := by simpa using hz
          by_cases hlast : k + 1 < l.length
          · have hll : ((k : Int) + 1 == (l.length : Int)) = false := by simp; omega
            have hlm2 : k + 1 < m.length := by rw [HML.out]; exact hlast
            have hkl : (k : Int) + 1 < l.length := by omega
            obtain ⟨b2, o2, hbb, _, q1, _⟩ := HEN.out.below HBL.out (k + 1) hlm2
            simp only [Option.some.injEq, Addr.mk.injEq] at hbb
            obtain ⟨rfl, rfl, _⟩ := hbb
            obtain ⟨q, y, hy⟩ : ∃ q y, m[k + 1] = (q, y) := ⟨_, _, rfl⟩
            rw [hy] at q1
            have HY := Lib.hid hy
            clear hy
            by_cases hq : q = p
            · subst hq
              have hqq : (q.toList != q.toList) = false := by simp
              have HN := Lib.hid (show pickL m = P ++ pickL (m.drop (k + 1)) by rw [HPK.out, HD.out, if_neg (fun c => c.2 hlm2 (by rw [HY.out]))]; rfl)
              go_wp2
              go_quiet (fail)
              go_wp2
              go_roundw
              case rel => exact ⟨_, k + 1, P, by omega, by go_num, rfl, by omega, HO.out.below (bl_drewN (bl_alloc (Below.refl _ wr) _) _), HN.out, bl_drewN (bl_alloc HBL.out _) _⟩
              case measure => simp [intOf]; omega
            · have hqq : (q.toList != p.toList) = true := str_ne hq
              have hqq' : (q.toList == p.toList) = false := str_eq hq
              have HN := Lib.hid (show pickL m = (P ++ [(p, x)]) ++ pickL (m.drop (k + 1)) by rw [HPK.out, HD.out, if_pos ⟨hz, fun _ => by rw [HY.out]; exact hq⟩]; simp)
              clear hq
              go_wp2
              go_quiet (fail)
              go_wp2_with (refine wpList_append_lies _ rfl (.tmp 42) (.tmp 44) 22 rfl w3.heap.size 39 i0 (.agg #[.string ⟨#[]⟩, .int .u32 0]) 2 24 Try.underlying22 hi hz0 hz1 hz2 rfl (by decide) _ P.length (enCells P) rfl (HO.out.below (bl_alloc (bl_drewN (bl_alloc (Below.refl _ wr) _) _) _)) ⟨wr.heap.size + 1, 0, none⟩ 1 1 [.string p, .int .u32 x] rfl rfl (cells_pair2 _ _ _ _ _ _) (one_pair _ _) (by decide) (by unfold maxLen; omega) (by omega) (by simp; omega) (wr.heap.size + 2) (by simp) ?_; intro gg cp w5 hown hg hat hlt5; have HO5 := Lib.hid hown; have HB5 := Lib.hid (gb_to_below (bl_alloc (bl_drewN (bl_alloc HBL.out _) _) _) hg (bl_alloc (bl_drewN (bl_alloc HBL.out _) _) _).size (fun i hi => (HO.out.lt i hi).1)); clear hown hg hat hlt5)
              go_roundw
              case rel => exact ⟨_, k + 1, _, by omega, by go_num, rfl, by rw [List.length_append]; show P.length + 1 ≤ _; omega, Own.push HO5.out, HN.out, HB5.out⟩
              case measure => simp [intOf]; omega
          · have hll : ((k : Int) + 1 == (l.length : Int)) = true := by simp; omega
            have HN := Lib.hid (show pickL m = (P ++ [(p, x)]) ++ pickL (m.drop (k + 1)) by rw [HPK.out, HD.out, if_pos ⟨hz, fun h => by have := HML.out; omega⟩]; simp)
            go_wp2
            go_quiet (fail)
            go_wp2_with (refine wpList_append_lies _ rfl (.tmp 42) (.tmp 44) 22 rfl w3.heap.size 39 i0 (.agg #[.string ⟨#[]⟩, .int .u32 0]) 2 24 Try.underlying22 hi hz0 hz1 hz2 rfl (by decide) _ P.length (enCells P) rfl (HO.out.below (bl_alloc (bl_drewN (bl_alloc (Below.refl _ wr) _) _) _)) ⟨wr.heap.size + 1, 0, none⟩ 1 1 [.string p, .int .u32 x] rfl rfl (cells_pair2 _ _ _ _ _ _) (one_pair _ _) (by decide) (by unfold maxLen; omega) (by omega) (by simp; omega) (wr.heap.size + 2) (by simp) ?_; intro gg cp w5 hown hg hat hlt5; have HO5 := Lib.hid hown; have HB5 := Lib.hid (gb_to_below (bl_alloc (bl_drewN (bl_alloc HBL.out _) _) _) hg (bl_alloc (bl_drewN (bl_alloc HBL.out _) _) _).size (fun i hi => (HO.out.lt i hi).1)); clear hown hg hat hlt5)
            go_roundw
            case rel => exact ⟨_, k + 1, _, by omega, by go_num, rfl, by rw [List.length_append]; show P.length + 1 ≤ _; omega, Own.push HO5.out, HN.out, HB5.out⟩
            case measure => simp [intOf]; omega
      · have hkl : k = l.length := by omega
        have HR := Lib.hid (show P = foldP [] l by rw [← HP.out, HPK.out, List.drop_eq_nil_of_le (by have := HML.out; omega)]; simp [pickL])
        go_wp2
        go_ret2
        refine ⟨_, by rw [HE.out]; rfl, ?_, bl_trans HB3.out HBL.out⟩
        rw [HT.out, ← HR.out]
        exact HO.out.mono HB3.out.size
end Go.Proofs.Ytdjpmgkcgpkkmaa
