/- Layer 8: changes as they lie; a tree patched. -/
import Derived.Test.YtdjpmgkcgpkkmaaTrPu
import Derived.Test.YtdjpmgkcgpkkmaaTrGd
set_option linter.unusedVariables false
set_option linter.unusedSimpArgs false
namespace Go.Proofs.Ytdjpmgkcgpkkmaa
open Go.RowKit TrMath

abbrev Chs := List (ByteArray × Int × Int)
/-- Changes lie one behind the other. -/
def ChAt (w : World) (a : Option Addr) (l : Chs) : Prop := ∀ i (h : i < l.length), ∃ b off, a = some ⟨b, off, none⟩ ∧ b < w.heap.size ∧ w.cell? ⟨b, off + i * 3, none⟩ = some (.string l[i].1) ∧ w.cell? ⟨b, off + i * 3 + 1, none⟩ = some (.int .u32 l[i].2.1) ∧ w.cell? ⟨b, off + i * 3 + 2, none⟩ = some (.int .u32 l[i].2.2)
theorem ChAt.below {w w' : World} {a : Option Addr} {l : Chs} (h : ChAt w a l) (hb : Below w.heap.size w w') : ChAt w' a l := fun i hi => by
  obtain ⟨b, off, h1, h0, h2, h3, h4⟩ := h i hi
  have e := hb.block b h0
  exact ⟨b, off, h1, Nat.lt_of_lt_of_le h0 hb.size, by rw [World.cell?_of_block e]; exact h2, by rw [World.cell?_of_block e]; exact h3, by rw [World.cell?_of_block e]; exact h4⟩
theorem ChAt.take {w : World} {a : Option Addr} {l : Chs} (h : ChAt w a l) (n : Nat) : ChAt w a (l.take n) := fun i hi => by
  have hl : i < l.length := by rw [List.length_take] at hi; omega
  obtain ⟨b, off, h1, h0, h2, h3, h4⟩ := h i hl
  exact ⟨b, off, h1, h0, by rw [List.getElem_take]; exact h2, by rw [List.getElem_take]; exact h3, by rw [List.getElem_take]; exact h4⟩
/-- The new words are words. -/
def WordsC (l : Chs) : Prop := ∀ e ∈ l, (0 ≤ e.2.1 ∧ e.2.1 < 4294967296) ∧ 0 ≤ e.2.2 ∧ e.2.2 < 4294967296
theorem WordsC.take {l : Chs} (h : WordsC l) (n : Nat) : WordsC (l.take n) := fun e he => h e (List.mem_of_mem_take he)
def patchL (T : Ents) (l : Chs) : Ents := foldP T (l.map fun c => (c.1, c.2.2))
theorem patch_len (T : Ents) (l : Chs) : (patchL T l).length ≤ T.length + l.length := by
  have := foldP_len T (l.map fun c => (c.1, c.2.2))
  rw [List.length_map] at this
  exact this
theorem patch_good {T : Ents} (h : TrMath.Good T) (l : Chs) : TrMath.Good (patchL T l) := foldP_good h _
theorem patch_snoc (T : Ents) {l : Chs} {k : Nat} (hk : k < l.length) {p : ByteArray} {o x : Int} (he : l[k] = (p, o, x)) : patchL T (l.take (k + 1)) = putR (patchL T (l.take k)) p x := by
  unfold patchL
  rw [List.take_succ_eq_append_getElem hk, he, List.map_append]
  exact foldP_snoc _ _ _
theorem own_eq {w : World} {B : Nat} {v : Value} {l m : Ents} (h : Own w B v l) (e : l = m) : Own w B v m := by subst e; exact h
def PatchSaid (T : Ents) (l : Chs) (w : World) (e : Ending) (w' : World) : Prop :=
  ∃ v', e = .returned v' ∧ Own w' w.heap.size v' (patchL T l) ∧ Below w.heap.size w w'

set_option maxHeartbeats 1000000 in
set_option maxRecDepth 100000 in
theorem tPatch (T : Ents) (hT : TrMath.Good T) (l : Chs) (hW : WordsC l) (a b : Option Addr) (c d : Nat) (hl : T.length + l.length ≤ 1000000000) (w : World) (h : EnAt w a T) (k : ChAt w b l) :
    Calls Try.prog 27 #[.slice a T.length c, .slice b l.length d] w (PatchSaid T l w) := by
  have HA := Lib.hid h; have HC := Lib.hid k; have HT := Lib.hid hT; have HW := Lib.hid hW
  have HCl := Lib.hid (tClone T a c (by omega) w h)
  clear h k hT hW
  go_enter Try.func27, Try.ntmps27
  go_wp2_with (go_at_call 36; (with_reducible refine (HCl.out).mono ?_); rintro e w1 ⟨v1, rfl, ho, hb⟩; have HO1 := Lib.hid ho; have HB1 := Lib.hid hb; clear ho hb)
  go_loopw [5, 12] (fun tv iv wr => ∃ (v : Value) (k : Nat), k ≤ l.length ∧ iv = .int .i64 k ∧ tv = v ∧ Own wr w.heap.size v (patchL T (l.take k)) ∧ Below w.heap.size w wr) (fun _ iv _ => l.length - (intOf iv).toNat)
  case atStart => exact ⟨_, 0, Nat.zero_le _, rfl, rfl, HO1.out, HB1.out⟩
  case round =>
    obtain ⟨v, k, hk, rfl, rfl, hown, hbel⟩ := hrel
    have hln := patch_len T (l.take k)
    rw [List.length_take] at hln
    obtain ⟨ga, gc, hv, hge, _⟩ := Own.sl hown
    subst hv
    have HO := Lib.hid hown; have HB := Lib.hid hbel; have HE := Lib.hid hge
    have hws := hbel.size
    clear hown hbel hge
    by_cases hlt : k < l.length
    · obtain ⟨b1, o1, rfl, _, p1, p2, p3⟩ := HC.out.below HB.out k hlt
      obtain ⟨p, o, x, hx⟩ : ∃ p o x, l[k] = (p, o, x) := ⟨_, _, _, rfl⟩
      obtain ⟨_, hx0, hx1⟩ := HW.out _ (List.getElem_mem hlt)
      rw [hx] at p1 p2 p3 hx0 hx1
      have HS := Lib.hid (patch_snoc T hlt hx)
      have hgg := patch_good HT.out (l.take k)
      obtain ⟨L, hL⟩ : ∃ L, patchL T (l.take k) = L := ⟨_, rfl⟩
      rw [hL] at hln HS HO HE hgg
      have HP := Lib.hid (fun W hw => (show Calls Try.prog 24 #[.slice ga L.length gc, .string p, .int .u32 x] W fun e w' => ∃ v', e = .returned v' ∧ Own w' W.heap.size v' (putR L p x) ∧ Below W.heap.size W w' from tPut L hgg.asc p x hx0 hx1 ga gc (by omega) W hw))
      rw [hL]
      clear hx hL hgg hln
      go_wp2_with (go_at_call 24; (with_reducible refine (HP.out _ (HE.out.below (bl_alloc (Below.refl _ wr) _))).mono ?_); rintro e w5 ⟨v5, rfl, ho, hb⟩; have HO5 := Lib.hid (ho.mono (Nat.le_trans hws (bl_alloc (Below.refl _ wr) _).size)); have HB5 := Lib.hid (bl_trans (bl_alloc HB.out _) hb); clear ho hb)
      go_roundw
      case rel => exact ⟨_, k + 1, by omega, by go_num, rfl, by rw [HS.out]; exact HO5.out, HB5.out⟩
      case measure => simp [intOf]; omega
    · have htk : l.take k = l := List.take_of_length_le (by omega)
      have HTK := Lib.hid (show patchL T (l.take k) = patchL T l by rw [htk])
      clear htk
      go_wp2
      go_ret
      exact ⟨_, rfl, own_eq HO.out HTK.out, HB.out⟩
end Go.Proofs.Ytdjpmgkcgpkkmaa
