/- Walks of layer 8: a copy with marked room; is it kept?; writing over an answer. -/
import Derived.Test.YtdjpmgkcgpkkmaaTrOwn
set_option linter.unusedVariables false
set_option linter.unusedSimpArgs false
namespace Go.Proofs.Ytdjpmgkcgpkkmaa
open Go.RowKit TrMath

def spP : ByteArray := ⟨#[115, 112, 97, 114, 101]⟩
def rmP : ByteArray := ⟨#[114, 111, 111, 109]⟩
def sp : List (ByteArray × Int) := [(spP, 9), (rmP, 8)]
theorem en_alloc2 (w : World) (p q : ByteArray) (v u : Int) (t : TypeId) : EnAt (w.alloc (.cells #[.string p, .int .u32 v, .string q, .int .u32 u] t)) (some ⟨w.heap.size, 0, none⟩) [(p, v), (q, u)] := by
  intro i hi
  match i, hi with
  | 0, _ => exact ⟨_, _, rfl, by simp, by rw [World.cell?_alloc_mark]; rfl, by rw [World.cell?_alloc_mark]; rfl⟩
  | 1, _ => exact ⟨_, _, rfl, by simp, by rw [World.cell?_alloc_mark]; rfl, by rw [World.cell?_alloc_mark]; rfl⟩
theorem en_alloc1 (w : World) (p : ByteArray) (v : Int) (t : TypeId) : EnAt (w.alloc (.cells #[.string p, .int .u32 v] t)) (some ⟨w.heap.size, 0, none⟩) [(p, v)] := by
  intro i hi
  match i, hi with
  | 0, _ => exact ⟨_, _, rfl, by simp, by rw [World.cell?_alloc_mark]; rfl, by rw [World.cell?_alloc_mark]; rfl⟩

set_option maxHeartbeats 1000000 in
set_option maxRecDepth 100000 in
theorem lCopied (l : List (ByteArray × Int)) (a : Option Addr) (c : Nat) (hl : l.length ≤ 1099511627776) (w : World) (h : EnAt w a l) :
    Calls Try.prog 11 #[.slice a l.length c] w fun e w' => ∃ g, e = .returned (.slice (some ⟨g, 0, none⟩) l.length (l.length + 3)) ∧ OwnB w' w.heap.size g (l.length + 3) (l ++ sp) ∧ Below w.heap.size w w' := by
  have HA := Lib.hid h
  clear h
  go_enter Try.func11, Try.ntmps11
  go_wp2_with (first
    | (refine wpList_made _ rfl _ (.tmp 6) rfl rfl _ (l.length + 3) rfl (by omega) (by omega) ?_; intro w1 hB hb hs; have HB1 := Lib.hid hB; have HL1 := Lib.hid hb; clear hB hb hs)
    | (refine wpList_room _ rfl (.tmp 8) (.tmp 9) rfl w.heap.size w.heap.size (l.length + 3) 0 [] rfl rfl HB1.out _ rfl l.length l rfl (src_en (HA.out.below HL1.out)) (by omega) ?_; rw [Nat.zero_add]; intro w2 hB hb hs; have HB2 := Lib.hid hB; have HL2 := Lib.hid (gb_to_below HL1.out hb HL1.out.size (by intro i hi; cases hi; omega)); clear hB hb hs)
    | (refine wpList_room _ rfl (.tmp 11) (.tmp 14) rfl w.heap.size w.heap.size (l.length + 3) l.length l rfl rfl (HB2.out.below (bl_alloc (Below.refl _ w2) _)) _ rfl 2 sp rfl (src_en (en_alloc2 w2 spP rmP 9 8 _)) (by omega) ?_; intro w3 hB hb hs; have HB3 := Lib.hid hB; have HL3 := Lib.hid (gb_to_below (bl_alloc HL2.out _) hb (bl_alloc HL2.out _).size (by intro i hi; cases hi; omega)); clear hB hb hs))
  go_ret
  exact ⟨_, rfl, HB3.out, HL3.out⟩

theorem sp_cells {w : World} {B g : Nat} {l : List (ByteArray × Int)} (h : OwnB w B g (l.length + 3) (l ++ sp)) :
    w.cell? ⟨g, l.length * 2, none⟩ = some (.string ⟨#[115, 112, 97, 114, 101]⟩) ∧ w.cell? ⟨g, l.length * 2 + 1, none⟩ = some (.int .u32 9) ∧ w.cell? ⟨g, l.length * 2 + 2, none⟩ = some (.string ⟨#[114, 111, 111, 109]⟩) ∧ w.cell? ⟨g, l.length * 2 + 3, none⟩ = some (.int .u32 8) := by
  obtain ⟨b, off, h1, _, h2, h3⟩ := h.at l.length (by simp [sp])
  cases h1
  obtain ⟨b, off, h1, _, h4, h5⟩ := h.at (l.length + 1) (by simp [sp])
  cases h1
  rw [List.getElem_append_right (Nat.le_refl _)] at h2 h3
  rw [List.getElem_append_right (by omega)] at h4 h5
  simp only [Nat.zero_add, Nat.sub_self, Nat.add_sub_cancel_left, show (l.length + 1) * 2 = l.length * 2 + 2 from by omega] at h2 h3 h4 h5
  exact ⟨h2, h3, h4, h5⟩
set_option maxHeartbeats 1000000 in
set_option maxRecDepth 100000 in
theorem lKept (l : List (ByteArray × Int)) (g : Nat) (a : Option Addr) (c B : Nat) (hl : l.length ≤ 1099511627776) (w : World) (hb : OwnB w B g (l.length + 3) (l ++ sp)) (h : EnAt w a l) :
    Calls Try.prog 18 #[.slice (some ⟨g, 0, none⟩) l.length (l.length + 3), .slice a l.length c] w fun e w' => e = .returned (.bool true) ∧ ∃ n, w' = w.drewN n := by
  obtain ⟨p1, p2, q1, q2⟩ := sp_cells hb
  have HS := Lib.hid (rSame l l (some ⟨g, 0, none⟩) a (l.length + 3) c (by unfold maxLen; omega) w (by have := (hb.take l.length).at; rw [List.take_left] at this; exact this) h)
  clear h hb
  have hs := sameB_self l
  go_enter Try.func18, Try.ntmps18
  go_wp2_with (go_at_call 14; (with_reducible refine (HS.out).mono ?_); rintro e w' ⟨rfl, n, rfl⟩)
  go_ret
  exact ⟨rfl, _, rfl⟩
end Go.Proofs.Ytdjpmgkcgpkkmaa
