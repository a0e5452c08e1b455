/- Walks of layer 2: the writer, on; Walks of layer 2: the writer's raw bytes and texts, the nil writer, the document's first example; Walk of layer 2: the document's numbers of some bytes. -/
import Derived.Test.YtbhfbdcmamodcaaGreatDoorL10
import Derived.Test.YtbhfbdcmamodcaaGreatDoorL08
import Derived.Laws.IdiomStrings
import Derived.Laws.OwnMore
import Derived.OwnWalk
set_option linter.unusedVariables false
set_option linter.unusedSimpArgs false
namespace Go.Proofs.YtbhfbdcmamodcaaGreatDoor
open Go.RowKit PackMath
theorem wr_stepG {B p : Nat} {w w0 w1 : World} {v v1 : Value} {bs l : List UInt8} (h : IsWr B w p v bs) (hb : Below w.heap.size w w0)
    (hown : w1.ownsRow B 5 1 v1 (bs.length + l.length) (bytesOf bs ++ bytesOf l)) (hg : w0.grownBy w1 v.ownBlock) (hat : v1.ownBlock = v.ownBlock ∨ v1.ownBlock = some w0.heap.size) :
    IsWr B (w1.setCell ⟨p, 0, none⟩ v1) p v1 (bs ++ l) ∧ Moved w (w1.setCell ⟨p, 0, none⟩ v1) p v v1 := by
  have hp : p < w.heap.size := (Array.getElem?_eq_some_iff.1 h.cell).1
  have hs := hb.size
  have hv : v.ownBlock ≠ some p := fun e => by
    rcases h.own.2 with ⟨rfl, _⟩ | ⟨g, cap, cur, rfl, _, hh, _⟩
    · simp [Value.ownBlock] at e
    · simp [Value.ownBlock] at e
      subst e
      have := hh.symm.trans h.cell
      simp at this
  have hc1 : w1.heap[p]? = some (.cells #[v] 235 (0, 0)) := by
    rw [hg.block p (by omega) (Ne.symm hv), hb.block p hp]; exact h.cell
  have hv1 : v1.ownBlock ≠ some p := fun e => by
    rcases hat with e2 | e2
    · exact hv (e2.symm.trans e)
    · rw [e2] at e; have := Option.some.inj e; omega
  refine ⟨⟨h.base, ?_, ?_⟩, ⟨?_, ?_, ?_, ?_, ?_, ?_⟩⟩
  · rw [heap_setCell_same w1 p 0 _ _ v1 hc1]; rfl
  · rw [List.length_append, bytesOf_append]
    refine ⟨hown.1, ?_⟩
    rcases hown.2 with h2 | ⟨g, cap, cur, hvv, hgb, hh, r⟩
    · exact .inl h2
    · refine .inr ⟨g, cap, cur, hvv, hgb, ?_, r⟩
      rw [heap_setCell_other _ _ _ _ (by intro e; apply hv1; rw [hvv, e]; rfl)]
      exact hh
  · exact hg.os.trans hb.os
  · exact hg.tape.trans hb.tape
  · exact hg.output.trans hb.output
  · have := hg.size; simp [World.setCell]; omega
  · intro k hk hkp hkv
    rw [heap_setCell_other _ _ _ _ hkp, hg.block k (by omega) hkv, hb.block k hk]
  · rcases hat with e | e
    · exact .inl e
    · exact .inr ⟨_, e, hs⟩
theorem wr_midG {B p : Nat} {w w0 w1 : World} {v : Value} {bs : List UInt8} (h : IsWr B w p v bs) (hb : Below w.heap.size w w0) (hg : w0.grownBy w1 v.ownBlock) :
    w1.cell? ⟨p, 0, none⟩ = some v ∧ w1.frozen? ⟨p, 0, none⟩ = false := by
  have hp : p < w.heap.size := (Array.getElem?_eq_some_iff.1 h.cell).1
  have hs := hb.size
  have hv : v.ownBlock ≠ some p := fun e => by
    rcases h.own.2 with ⟨rfl, _⟩ | ⟨g, cap, cur, rfl, _, hh, _⟩
    · simp [Value.ownBlock] at e
    · simp [Value.ownBlock] at e
      subst e
      have := hh.symm.trans h.cell
      simp at this
  have hc1 : w1.heap[p]? = some (.cells #[v] 235 (0, 0)) := by
    rw [hg.block p (by omega) (Ne.symm hv), hb.block p hp]
    exact h.cell
  exact ⟨by rw [cell_of_row _ _ _ _ _ _ hc1]; rfl, frozen_of_row _ _ _ _ _ hc1⟩
theorem fixed_at (B p : Nat) (x : Int) (k : Nat) (hxk : x = (k : Int)) (n : Int) (m : Nat) (hnm : n = (m : Int)) (hx : k < 18446744073709551616) (hn : m ≤ 8) (w : World) (v : Value) (bs : List UInt8) (h : IsWr B w p v bs) (hB : B ≤ w.heap.size) (hl : bs.length + m ≤ 140737488355328) :
    Calls Tryz.prog 138 #[.pointer (some ⟨p, 0, none⟩), .int .u64 x, .int .i64 n] w fun e w' => e = .returned (.tuple #[]) ∧ ∃ v', IsWr B w' p v' (bs ++ be k m) ∧ Moved w w' p v v' := by
  subst hxk; subst hnm
  exact fixed_any B p k m hx hn w v bs h hB hl
section
variable (B p : Nat) (k : Nat) (w : World) (v : Value) (bs : List UInt8)
theorem u8_any (hk : k < 256) (h : IsWr B w p v bs) (hB : B ≤ w.heap.size) (hl : bs.length + 8 ≤ 140737488355328) :
    Calls Tryz.prog 74 #[.pointer (some ⟨p, 0, none⟩), .int .u8 k] w fun e w' => e = .returned (.tuple #[]) ∧ ∃ v', IsWr B w' p v' (bs ++ be k 1) ∧ Moved w w' p v v' := by
  go_enter Tryz.func74, Tryz.ntmps74
  go_wp2_with (go_at_call 138; refine (fixed_at B p _ k rfl _ 1 rfl (by omega) (by decide) _ v bs h hB (by omega)).mono ?_; rintro e w1 ⟨rfl, hh⟩; have H := Lib.hid hh; clear hh)
  go_end0
  exact ⟨rfl, H.out⟩
theorem u16_any (hk : k < 65536) (h : IsWr B w p v bs) (hB : B ≤ w.heap.size) (hl : bs.length + 8 ≤ 140737488355328) :
    Calls Tryz.prog 72 #[.pointer (some ⟨p, 0, none⟩), .int .u16 k] w fun e w' => e = .returned (.tuple #[]) ∧ ∃ v', IsWr B w' p v' (bs ++ be k 2) ∧ Moved w w' p v v' := by
  go_enter Tryz.func72, Tryz.ntmps72
  go_wp2_with (go_at_call 138; refine (fixed_at B p _ k rfl _ 2 rfl (by omega) (by decide) _ v bs h hB (by omega)).mono ?_; rintro e w1 ⟨rfl, hh⟩; have H := Lib.hid hh; clear hh)
  go_end0
  exact ⟨rfl, H.out⟩
theorem u32_any (hk : k < 4294967296) (h : IsWr B w p v bs) (hB : B ≤ w.heap.size) (hl : bs.length + 8 ≤ 140737488355328) :
    Calls Tryz.prog 76 #[.pointer (some ⟨p, 0, none⟩), .int .u32 k] w fun e w' => e = .returned (.tuple #[]) ∧ ∃ v', IsWr B w' p v' (bs ++ be k 4) ∧ Moved w w' p v v' := by
  go_enter Tryz.func76, Tryz.ntmps76
  go_wp2_with (go_at_call 138; refine (fixed_at B p _ k rfl _ 4 rfl (by omega) (by decide) _ v bs h hB (by omega)).mono ?_; rintro e w1 ⟨rfl, hh⟩; have H := Lib.hid hh; clear hh)
  go_end0
  exact ⟨rfl, H.out⟩
end
theorem new_any (w : World) :
    Calls Tryz.prog 71 #[] w fun e w' => e = .returned (.pointer (some ⟨w.heap.size, 0, none⟩)) ∧ w' = w.alloc (.cells #[.slice none 0 0] 235) := by
  go_enter Tryz.func71, Tryz.ntmps71
  go_wp2
  go_ret
  exact ⟨rfl, rfl⟩
theorem wr_new (w : World) : IsWr w.heap.size (w.alloc (.cells #[.slice none 0 0] 235)) w.heap.size (.slice none 0 0) [] :=
  ⟨Nat.le_refl _, heap_alloc_new _ _, World.ownsRow_nil _ _ _ _⟩
theorem len_any (B p : Nat) (w : World) (v : Value) (bs : List UInt8) (h : IsWr B w p v bs) :
    Calls Tryz.prog 146 #[.pointer (some ⟨p, 0, none⟩)] w fun e w' => e = .returned (.int .i64 (bs.length : Nat)) ∧ w = w' := by
  have hcell : w.cell? ⟨p, 0, none⟩ = some v := by rw [cell_of_row _ _ _ _ _ _ h.cell]; rfl
  have hv : ∃ a c, v = .slice a bs.length c := by
    rcases h.own.2 with ⟨rfl, h0⟩ | ⟨g, cap, cur, rfl, _⟩
    · exact ⟨none, 0, by rw [h0]⟩
    · exact ⟨_, cap, rfl⟩
  obtain ⟨a, c, rfl⟩ := hv
  clear h
  go_enter Tryz.func146, Tryz.ntmps146
  go_wp2
  go_ret
  exact ⟨rfl, rfl⟩
theorem run_own_string (B : Nat) (w : World) (v : Value) (bs : List UInt8) (h : w.ownsRow B 5 1 v bs.length (bytesOf bs)) :
    (convert 23 9 v).run Tryz.prog w = .ok (.string ⟨bs.toArray⟩) w := by
  have hc := fun g (hg : v.ownBlock = some g) => h.cells hg
  rcases h.2 with ⟨rfl, h0⟩ | ⟨g, cap, cur, rfl, _⟩
  · have : bs = [] := List.eq_nil_of_length_eq_zero h0
    subst this
    rw [run_convert_bytes_string w _ _ 5 none 0 0 Tryz.underlying23 Tryz.underlying5 Tryz.underlying9]
    rfl
  · exact run_convert_bytes_back (P := Tryz.prog) w _ _ 5 ⟨g, 0, none⟩ cap bs Tryz.underlying23 Tryz.underlying5 Tryz.underlying9 (fun j hj => hc g rfl j _ (by simp [bytesOf, hj]))
theorem bytes_any (B p : Nat) (w : World) (v : Value) (bs : List UInt8) (h : IsWr B w p v bs) :
    Calls Tryz.prog 77 #[.pointer (some ⟨p, 0, none⟩)] w fun e w' => e = .returned (.string ⟨bs.toArray⟩) ∧ w = w' := by
  have hcell : w.cell? ⟨p, 0, none⟩ = some v := by rw [cell_of_row _ _ _ _ _ _ h.cell]; rfl
  have hrun := run_own_string B w v bs h.own
  clear h
  go_enter Tryz.func77, Tryz.ntmps77
  go_wp2
  go_ret
  exact ⟨rfl, rfl⟩
end Go.Proofs.YtbhfbdcmamodcaaGreatDoor
namespace Go.Proofs.YtbhfbdcmamodcaaGreatDoor
open Go.RowKit PackMath
theorem slice_of_own {B e k n : Nat} {w : World} {v : Value} {xs : List Value} (h : w.ownsRow B e k v n xs) : ∃ a c, v = .slice a n c := by
  rcases h.2 with ⟨rfl, h0⟩ | ⟨g, cap, cur, rfl, _⟩
  · exact ⟨none, 0, by rw [h0]⟩
  · exact ⟨_, cap, rfl⟩
theorem raw_any (B p : Nat) (s : ByteArray) (w : World) (v : Value) (bs : List UInt8) (h : IsWr B w p v bs) (hB : B ≤ w.heap.size) (hl : bs.length + s.size ≤ 225000000000000) :
    Calls Tryz.prog 75 #[.pointer (some ⟨p, 0, none⟩), .string s] w fun e w' => e = .returned (.tuple #[]) ∧ ∃ v', IsWr B w' p v' (bs ++ s.data.toList) ∧ Moved w w' p v v' := by
  obtain ⟨i0, hi, hz0, hz1, hz2⟩ := info_parts infoU8
  have hcell : w.cell? ⟨p, 0, none⟩ = some v := by rw [cell_of_row _ _ _ _ _ _ h.cell]; rfl
  have hfr := frozen_of_row w p 0 _ _ h.cell
  have HR := Lib.hid h; clear h
  go_enter Tryz.func75, Tryz.ntmps75
  go_wp2_with (refine wpList_append_string_own _ rfl (.tmp 10) (.tmp 11) 23 9 rfl B 5 i0 (.int .u8 0) Tryz.underlying23 Tryz.underlying9 hi hz0 hz1 hz2 rfl v bs.length (bytesOf bs) rfl HR.out.own s rfl hl hB ?_; intro v1 w1 hown hg hat; obtain ⟨ga, gc, rfl⟩ := slice_of_own hown; obtain ⟨hc1, hf1⟩ := wr_midG HR.out (Below.refl _ _) hg)
  go_end0
  have HS := wr_stepG (l := s.data.toList) HR.out (Below.refl _ _) hown hg hat
  exact ⟨rfl, _, HS⟩
end Go.Proofs.YtbhfbdcmamodcaaGreatDoor
namespace Go.Proofs.YtbhfbdcmamodcaaGreatDoor
open Go.RowKit PackMath
theorem below_of_grown {w w' : World} {row : Option Nat} (h : w.grownBy w' row) (hr : ∀ g, row = some g → w.heap.size ≤ g) : Below w.heap.size w w' :=
  ⟨h.os, h.tape, h.output, h.size, fun k hk => h.block k hk (fun e => by have := hr k e.symm; omega)⟩
end Go.Proofs.YtbhfbdcmamodcaaGreatDoor
