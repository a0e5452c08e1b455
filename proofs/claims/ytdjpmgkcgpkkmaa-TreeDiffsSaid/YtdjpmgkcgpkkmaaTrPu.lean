/- Walks of layer 8: Put. -/
import Derived.Test.YtdjpmgkcgpkkmaaTrIn3
import Derived.Test.YtdjpmgkcgpkkmaaTrDel
import Derived.Test.YtdjpmgkcgpkkmaaTrLk
import Derived.Test.YtdjpmgkcgpkkmaaTrPt
set_option linter.unusedVariables false
set_option linter.unusedSimpArgs false
namespace Go.Proofs.Ytdjpmgkcgpkkmaa
open Go.RowKit TrMath

theorem tInsert (l : Ents) (i : Nat) (hil : i ≤ l.length) (B : Nat) (v : Value) (p : ByteArray) (u : Int) (x : Nat) (hl : l.length ≤ 1099511627776) (w : World) (h : Own w B v l) (hB : B ≤ w.heap.size) (hx : w.heap[x]? = some (.cells #[.string p, .int .u32 u] 39 (0, 0))) (hxg : ∀ g, v.ownBlock = some g → x ≠ g) :
    Calls Try.prog 53 #[v, .int .i64 i, .slice (some ⟨x, 0, none⟩) 1 1] w (InsSaid B l i p u w) := by
  by_cases hlt : i < l.length
  · obtain ⟨g, cap, cur, rfl, r⟩ := own_form h (by omega)
    have hb := Own.block h
    have hn : l.length ≤ cap := by obtain ⟨_, _, _, hn, _⟩ := hb; exact hn
    by_cases hroom : l.length + 1 ≤ cap
    · exact tInsertRoom l i hlt B g cap p u x hl hroom w hb hB hx (hxg g rfl)
    · obtain rfl : cap = l.length := by omega
      exact tInsertFull l i hlt B g p u x hl w hb hB hx
  · obtain rfl : i = l.length := by omega
    exact tInsertEnd l B v p u x hl w h hB hx
theorem put_ix_hit0 {l : Ents} {p : ByteArray} {i : Nat} (hi : IxAt l p i) (hlt : i < l.length) (he : l[i].1 = p) (v : Int) (hv : v = 0) : putL l p v = l.take i ++ l.drop (i + 1) := by
  rw [put_hit hlt hi.lo he, if_pos hv]; simp
theorem put_ix_hit {l : Ents} {p : ByteArray} {i : Nat} (hi : IxAt l p i) (hlt : i < l.length) (he : l[i].1 = p) (v : Int) (hv : v ≠ 0) : putL l p v = l.set i (p, v) := by
  rw [put_hit hlt hi.lo he, if_neg hv, List.set_eq_take_append_cons_drop, if_pos hlt]; simp
theorem put_ix_no {l : Ents} {p : ByteArray} {i : Nat} (hi : IxAt l p i) (hn : ¬ ∃ h : i < l.length, l[i].1 = p) (v : Int) : putL l p v = l.take i ++ ((if v = 0 then [] else [(p, v)]) ++ l.drop i) := by
  rw [putL_split p v l i hi.le hi.lo hi.hi, if_neg hn]
/-- One entry's word is written over. -/
theorem OwnB.setBlob {w : World} {B g cap : Nat} {l : Ents} (h : OwnB w B g cap l) {k : Nat} (hk : k < l.length) {p : ByteArray} (hp : l[k].1 = p) (v : Int) : OwnB (w.setCell ⟨g, k * 2 + 1, none⟩ (.int .u32 v)) B g cap (l.set k (p, v)) := by
  obtain ⟨cur, hB, hh, hn, hm, hs, ht⟩ := h
  refine ⟨cur.setIfInBounds (k * 2 + 1) (.int .u32 v), hB, heap_setCell_same _ _ _ _ _ _ hh, by rw [List.length_set]; exact hn, hm, by simp [hs], ?_⟩
  rw [Array.toList_setIfInBounds, List.take_set, List.length_set, ht, ← enCells_set l p v k hk]
  congr 1
  obtain ⟨g0, _⟩ := enCells_get l k hk
  obtain ⟨h0, e0⟩ := List.getElem?_eq_some_iff.1 g0
  rw [hp] at e0
  rw [← e0]
  exact (List.set_getElem_self h0).symm

def PutSaid (l : Ents) (p : ByteArray) (v : Int) (w : World) (e : Ending) (w' : World) : Prop :=
  ∃ v', e = .returned v' ∧ Own w' w.heap.size v' (putR l p v) ∧ Below w.heap.size w w'

set_option maxHeartbeats 2000000 in
set_option maxRecDepth 100000 in
theorem tPut (l : Ents) (hA : Asc l) (p : ByteArray) (v : Int) (hv0 : 0 ≤ v) (hv1 : v < 4294967296) (a : Option Addr) (c : Nat) (hl : l.length ≤ 1099511627776) (w : World) (h : EnAt w a l) :
    Calls Try.prog 24 #[.slice a l.length c, .string p, .int .u32 v] w (PutSaid l p v w) := by
  have HCl := Lib.hid (tClone l a c hl w h)
  clear h
  go_enter Try.func24, Try.ntmps24
  go_wp2_with fail
  refine (HCl.out).mono ?_
  rintro e w2 ⟨v', rfl, hO, hB⟩
  obtain ⟨ga, gc, rfl, hE, hS⟩ := Own.sl hO
  have HO := Lib.hid hO; have HB := Lib.hid hB; have HE := Lib.hid hE
  have hw12 := hB.size
  clear hO hB hE HCl
  by_cases hlong : 255 < p.size
  · have HR := Lib.hid (show putR l p v = l by unfold putR; rw [if_pos hlong])
    have hz : decide ((255 : Int) < (p.size : Int)) = true := by simp; omega
    go_wp2
    go_ret
    exact ⟨_, rfl, by rw [HR.out]; exact HO.out, HB.out⟩
  · have HR := Lib.hid (show putR l p v = putL l p v by unfold putR; rw [if_neg hlong])
    have hz : decide ((255 : Int) < (p.size : Int)) = false := by simp; omega
    have HS := Lib.hid (tSearch l hA p ga gc hl w2 HE.out)
    go_wp2_with fail
    refine (HS.out).mono ?_
    rintro e w3 ⟨i, rfl, hix, hb3⟩
    have HX := Lib.hid hix
    have HO3 := Lib.hid (HO.out.below hb3)
    have HB3 := Lib.hid (HB.out.trans (hb3.mono hw12))
    have hile := hix.le
    have hw13 : w.heap.size ≤ w3.heap.size := Nat.le_trans hw12 hb3.size
    clear hix hb3 HS
    have hi1 : IntKind.i64.wrap ((i : Int) + 1) = (i : Int) + 1 := IntWalk.i64_in _ (by omega)
    by_cases hok : okAt l p i = true
    · obtain ⟨hil, he⟩ : ∃ h : i < l.length, l[i].1 = p := of_decide_eq_true hok
      obtain ⟨g, cap, cur, hv, hgB, r⟩ := own_form HO3.out (by omega)
      cases hv
      have HOb := Lib.hid (Own.block HO3.out)
      clear r
      by_cases hv0 : v = 0
      · have HP := Lib.hid (put_ix_hit0 HX.out hil he v hv0)
        subst hv0
        have HD := Lib.hid (tDelete l i hil w.heap.size g gc hl w3 HOb.out)
        clear he
        go_wp2_with fail
        refine (HD.out).mono ?_
        rintro e w4 ⟨rfl, hO4, hG4⟩
        have HO4 := Lib.hid hO4; have HG4 := Lib.hid hG4
        clear hO4 hG4
        go_wp2
        go_ret
        exact ⟨_, rfl, by rw [HR.out, HP.out]; exact own_fin HO4.out rfl (by rw [List.length_append, List.length_take, List.length_drop]; omega), gb_to_below HB3.out HG4.out hw13 (fun k hk => by cases hk; exact hgB)⟩
      · have HP := Lib.hid (put_ix_hit HX.out hil he v hv0)
        have HO4 := Lib.hid (HOb.out.setBlob hil he v)
        have hv0' : (v == 0) = false := by simpa using hv0
        obtain ⟨_, q2, _, q4⟩ := Own.cells HOb.out.own hil
        have HBs := Lib.hid (show Below w.heap.size w (w3.setCell ⟨g, i * 2 + 1, none⟩ (.int .u32 v)) from Below.setCell (p := ⟨g, i * 2 + 1, none⟩) HB3.out hgB _)
        clear he
        go_wp2
        go_ret
        exact ⟨_, rfl, by rw [HR.out, HP.out]; exact own_fin HO4.out rfl (List.length_set ..), HBs.out⟩
    · have hok' : okAt l p i = false := by simpa using hok
      have he : ¬ ∃ h : i < l.length, l[i].1 = p := of_decide_eq_false hok'
      have HP := Lib.hid (put_ix_no HX.out he v)
      clear he hok
      by_cases hv0 : v = 0
      · have HP2 := Lib.hid (show putL l p v = l by rw [HP.out, if_pos hv0]; simp)
        subst hv0
        go_wp2
        go_ret
        exact ⟨_, rfl, by rw [HR.out, HP2.out]; exact HO3.out, HB3.out⟩
      · have hv0' : (v == 0) = false := by simpa using hv0
        have hv0'' : (v != 0) = true := by simpa using hv0
        have HP2 := Lib.hid (show putL l p v = l.take i ++ (p, v) :: l.drop i by rw [HP.out, if_neg hv0]; rfl)
        have HI := Lib.hid (fun W (hO : Own W w.heap.size (.slice ga l.length gc) l) hB x hx hxg => tInsert l i hile w.heap.size _ p v x hl W hO hB hx hxg)
        go_wp2_with fail
        refine (HI.out _ (HO3.out.alloc _) (Nat.le_trans hw13 (by simp)) _ (heap_alloc_new w3 _) (fun g hg => Nat.ne_of_gt (HO3.out.lt g hg).2)).mono ?_
        rintro e w5 ⟨v5, rfl, hO5, hB5⟩
        have HO5 := Lib.hid hO5; have HB5 := Lib.hid hB5
        clear hO5 hB5
        go_wp2
        go_ret
        exact ⟨_, rfl, by rw [HR.out, HP2.out]; exact HO5.out, (bl_alloc HB3.out _).trans HB5.out⟩
end Go.Proofs.Ytdjpmgkcgpkkmaa
