/- Layer 8: the document's Patch. -/
import Derived.Test.YtdjpmgkcgpkkmaaTrCh
import Derived.Test.YtdjpmgkcgpkkmaaTrIn3
import Derived.Deep.RegionHeld3
set_option linter.unusedVariables false
set_option linter.unusedSimpArgs false
namespace Go.Proofs.Ytdjpmgkcgpkkmaa
open Go.RowKit TrMath

/-- Entries appended to an empty row that was just made. -/
theorem run_append_fresh {w : World} {B h c : Nat} {a : Option Addr} {T : Ents} {t ty : TypeId} (ht : t = 39) (hh : w.heap[h]? = some (.cells #[] t (0, 0))) (hB : B ≤ h) (hT : T.length ≤ 1099511627776) (hA : EnAt w a T) :
    ∃ v' w', (Builtin.append_ #[22, 22] ty #[.slice (some ⟨h, 0, none⟩) 0 0, .slice a T.length c]).run Try.prog w = .ok v' w' ∧ Own w' B v' T ∧ Below w.heap.size w w' := by
  subst ht
  obtain ⟨i0, hi0, hz0, hz1, hz2⟩ := info_parts infoEntry
  have hs : Src Try.prog i0.size 22 (.slice a T.length c) T.length (enCells T) w := by rw [hz1]; exact src_en hA
  have hlt : h < w.heap.size := (Array.getElem?_eq_some_iff.1 hh).1
  by_cases h0 : T.length = 0
  · obtain rfl : T = [] := List.eq_nil_of_length_eq_zero h0
    have hr := run_append_room_src (w := w) 22 22 ty 39 i0 Try.underlying22 hi0 h 0 0 0 _ _ _ hs (Nat.le_refl _) (fun j hj => by simp [enCells] at hj) (fun j hj => by simp [enCells] at hj)
    exact ⟨_, _, hr, (show OwnB w B h 0 [] from ⟨#[], hB, hh, Nat.le_refl _, Nat.zero_le _, rfl, rfl⟩).own, Below.refl _ _⟩
  · have hnext := nextslicecap_le (need := T.length) (old := 0) (by omega)
    have hold : (Builtin.firstCells i0.size 0 (.slice (some ⟨h, 0, none⟩) 0 0)).run Try.prog w.drew = .ok ([] : List Value).toArray w.drew :=
      run_firstCells_some w.drew i0.size 0 ⟨h, 0, none⟩ 0 0 [] (by simp) (fun j u hj => by simp at hj)
    have hr := run_append_grow_src (w := w) 22 22 ty 39 i0 (.agg #[.string ⟨#[]⟩, .int .u32 0]) Try.underlying22 hi0 (by simpa using hz0) (some ⟨h, 0, none⟩) 0 0 [] hold _ T.length (enCells T) hs (by omega) (by omega) (by rw [Nat.zero_add, hz2]; omega)
    rw [Nat.zero_add] at hr
    have hge := grownCap_ge w T.length 0 39
    have hcm : grownCap w T.length 0 39 ≤ maxLen := grownCap_le_maxLen w T.length 0 39 (by unfold maxLen; omega)
    refine ⟨_, _, hr, ?_, (bl_drew (Below.refl _ w)).alloc (Nat.le_refl _) _⟩
    refine OwnB.own (⟨_, by omega, heap_alloc_new w.drew _, hge, hcm, ?_, ?_⟩ : OwnB _ B w.heap.size _ T)
    · simp only [Array.size_append, List.size_toArray, size_zeroCells, List.nil_append, enCells_len]
      show T.length * 2 + _ * 2 = _ * 2
      omega
    · simp only [Array.toList_append, List.nil_append]
      rw [← enCells_len T]
      exact List.take_left

set_option maxHeartbeats 2000000 in
set_option maxRecDepth 100000 in
theorem rPatch (T : Ents) (l : Chs) (hW : WordsC l) (a b : Option Addr) (c d : Nat) (hl : T.length + l.length ≤ 1000000000) (w : World) (h : EnAt w a T) (k : ChAt w b l) :
    Calls Try.prog 28 #[.slice a T.length c, .slice b l.length d] w (PatchSaid T l w) := by
  have HC := Lib.hid k; have HW := Lib.hid hW
  obtain ⟨v1, w1, hr, ho, hb⟩ := run_append_fresh (w := w.alloc (.cells #[] 39)) (B := w.heap.size) (h := w.heap.size) (c := c) (ty := 22) rfl (heap_alloc_new w _) (Nat.le_refl _) (by omega) (h.below (bl_alloc (Below.refl _ w) _))
  have HR := Lib.hid hr; have HO1 := Lib.hid ho; have HB1 := Lib.hid (bl_trans (bl_alloc (Below.refl _ w) _) hb)
  clear h k hW hr ho hb
  go_enter Try.func28, Try.ntmps28
  go_wp2_with (at_builtin; refine Lib.wpList_append_run _ rfl (.tmp 7) (.tmp 8) 22 22 rfl _ _ rfl rfl _ _ HR.out ?_)
  go_loopw [5, 6] (fun tv iv wr => ∃ (v : Value) (k : Nat), k ≤ l.length ∧ iv = .int .i64 k ∧ tv = v ∧ Own wr w.heap.size v (patchL T (l.take k)) ∧ Below w.heap.size w wr) (fun _ iv _ => l.length - (intOf iv).toNat)
  case atStart => exact ⟨_, 0, Nat.zero_le _, rfl, rfl, HO1.out, HB1.out⟩
  case round =>
    obtain ⟨v, k, hk, rfl, rfl, hown, hbel⟩ := hrel
    have hln := patch_len T (l.take k)
    rw [List.length_take] at hln
    obtain ⟨ga, gc, hv, hge, hsl⟩ := Own.sl hown
    subst hv
    have HO := Lib.hid hown; have HB := Lib.hid hbel; have HE := Lib.hid hge; have HSL := Lib.hid hsl
    have hws := hbel.size
    clear hown hbel hge hsl
    by_cases hlt : k < l.length
    · obtain ⟨b1, o1, rfl, _, p1, p2, p3⟩ := HC.out.below HB.out k hlt
      obtain ⟨p, o, x, hx⟩ : ∃ p o x, l[k] = (p, o, x) := ⟨_, _, _, rfl⟩
      obtain ⟨_, hx0, hx1⟩ := HW.out _ (List.getElem_mem hlt)
      rw [hx] at p1 p2 p3 hx0 hx1
      have HS := Lib.hid (patch_snoc T hlt hx)
      have hk1 : IntKind.i64.wrap ((k : Int) + 1) = (k : Int) + 1 := IntWalk.i64_in _ (by omega)
      obtain ⟨L, hL⟩ : ∃ L, patchL T (l.take k) = L := ⟨_, rfl⟩
      rw [hL] at hln HS HO HE HSL
      have HP := Lib.hid (fun W hw => rPut L p x hx0 hx1 ga gc HSL.out (by omega) W hw)
      rw [hL]
      clear hx hL hln p2
      go_wp2
      go_region_held3 (fun w' => w'.cell? ⟨b1, o1 + k * 3, none⟩ = some (.string p) ∧ w'.cell? ⟨b1, o1 + k * 3 + 2, none⟩ = some (.int .u32 x))
        (first | exact HCY.out | exact ⟨p1, p3⟩)
        (first | (go_at_call 23; (with_reducible refine (HP.out _ (HE.out.below (bl_drew (Below.refl _ wr)))).mono ?_); rintro r w5 ⟨v5, rfl, hown5, hb5⟩; have hb6 := (Below.drew (Below.refl _ wr)).trans hb5; have HBL := Lib.hid (bl_trans HB.out hb6); have HV5 := Lib.hid (hown5.mono (show w.heap.size ≤ wr.drew.heap.size from hws)); have HCY := Lib.hid (show w5.cell? ⟨b1, o1 + k * 3, none⟩ = some (.string p) ∧ w5.cell? ⟨b1, o1 + k * 3 + 2, none⟩ = some (.int .u32 x) from ⟨bl_cell hb6 p1, bl_cell hb6 p3⟩); clear hown5 hb5 hb6))
      all_goals
        go_wp2
        go_roundw
        case rel => exact ⟨_, k + 1, by omega, by go_num, rfl, by rw [HS.out]; exact HV5.out, HBL.out⟩
        case measure => simp [intOf]; omega
    · have htk : l.take k = l := List.take_of_length_le (by omega)
      have HTK := Lib.hid (show patchL T (l.take k) = patchL T l by rw [htk])
      clear htk
      go_wp2
      go_ret
      exact ⟨_, rfl, own_eq HO.out HTK.out, HB.out⟩
end Go.Proofs.Ytdjpmgkcgpkkmaa
