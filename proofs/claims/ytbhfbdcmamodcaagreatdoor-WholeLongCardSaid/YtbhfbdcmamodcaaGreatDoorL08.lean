/- Walks of layer 2: the writer: what it holds, and what each laying does. -/
import Derived.Test.YtbhfbdcmamodcaaGreatDoorL03
import Derived.Test.YtbhfbdcmamodcaaGreatDoorL01
import Derived.Test.YtbhfbdcmamodcaaGreatDoorRows
import Derived.WalkKit
import Derived.WalkSpells
import Derived.WalkLawsBesides
import Derived.Deep.RegionLaw
import Derived.Deep.AppendLies
set_option linter.unusedVariables false
set_option linter.unusedSimpArgs false
namespace Go.Proofs.YtbhfbdcmamodcaaGreatDoor
open Go.RowKit PackMath
def bytesOf (l : List UInt8) : List Value := l.map fun b => Value.int .u8 (b.toNat : Nat)
theorem bytesOf_append (l m : List UInt8) : bytesOf (l ++ m) = bytesOf l ++ bytesOf m := by simp [bytesOf]
structure IsWr (B : Nat) (w : World) (p : Nat) (v : Value) (bs : List UInt8) : Prop where
  base : B ≤ p
  cell : w.heap[p]? = some (.cells #[v] 235 (0, 0))
  own : w.ownsRow B 5 1 v bs.length (bytesOf bs)
structure Moved (w w' : World) (p : Nat) (v v' : Value) : Prop where
  os : w'.os = w.os
  tape : w'.tape = w.tape
  output : w'.output = w.output
  size : w.heap.size ≤ w'.heap.size
  block : ∀ k, k < w.heap.size → k ≠ p → some k ≠ v.ownBlock → w'.heap[k]? = w.heap[k]?
  lies : v'.ownBlock = v.ownBlock ∨ ∃ g, v'.ownBlock = some g ∧ w.heap.size ≤ g
theorem Moved.refl (w : World) (p : Nat) (v : Value) : Moved w w p v v := ⟨rfl, rfl, rfl, Nat.le_refl _, fun _ _ _ _ => rfl, .inl rfl⟩
theorem Moved.trans {w x y : World} {p : Nat} {u v z : Value} (h : Moved w x p u v) (k : Moved x y p v z) : Moved w y p u z := by
  refine ⟨k.os.trans h.os, k.tape.trans h.tape, k.output.trans h.output, Nat.le_trans h.size k.size, fun i hi hp hu => ?_, ?_⟩
  · rw [k.block i (Nat.lt_of_lt_of_le hi h.size) hp ?_, h.block i hi hp hu]
    rcases h.lies with e | ⟨g, e, hg⟩
    · rw [e]; exact hu
    · rw [e]
      intro e2
      have := Option.some.inj e2
      omega
  · rcases k.lies with e | ⟨g, e, hg⟩
    · rcases h.lies with e2 | ⟨g, e2, hg⟩
      · exact .inl (e.trans e2)
      · exact .inr ⟨g, e.trans e2, hg⟩
    · exact .inr ⟨g, e, Nat.le_trans h.size hg⟩
theorem Moved.below {B : Nat} {w w' : World} {p : Nat} {v v' : Value} {bs : List UInt8} (h : Moved w w' p v v') (k : IsWr B w p v bs) (hB : B ≤ w.heap.size) : Below B w w' :=
  ⟨h.os, h.tape, h.output, h.size, fun i hi => h.block i (by omega) (by have := k.base; omega) (fun e => by have := (k.own.lt i e.symm).1; omega)⟩
theorem Moved.drew {w w' : World} {p : Nat} {v v' : Value} (h : Moved w w' p v v') : Moved w w'.drew p v v' := ⟨h.os, h.tape, h.output, h.size, h.block, h.lies⟩
theorem infoU8 : (Tryz.prog.info? 5).map (fun i => (i.zero, i.size, i.bytes)) = some (some (.int .u8 0), 1, 1) := by kernel_rfl
theorem own_lt {B e n : Nat} {w : World} {v : Value} {xs : List Value} (h : w.ownsRow B e 1 v n xs) : ∀ g, v.ownBlock = some g → g < w.heap.size := fun g hg => (h.lt g hg).2
theorem wr_step {B p : Nat} {w w1 : World} {v v1 : Value} {bs : List UInt8} {b : UInt8} (h : IsWr B w p v bs) {o : Obj}
    (hown : w1.ownsRow B 5 1 v1 (bs.length + 1) (bytesOf bs ++ [.int .u8 (b.toNat : Nat)])) (hg : (w.drew.alloc o).grownBy w1 v.ownBlock) (hat : v1.ownBlock = v.ownBlock ∨ v1.ownBlock = some (w.heap.size + 1)) :
    IsWr B (w1.setCell ⟨p, 0, none⟩ v1) p v1 (bs ++ [b]) ∧ Moved w (w1.setCell ⟨p, 0, none⟩ v1) p v v1 := by
  have hp : p < w.heap.size := (Array.getElem?_eq_some_iff.1 h.cell).1
  have hv : v.ownBlock ≠ some p := fun e => by
    rcases h.own.2 with ⟨rfl, _⟩ | ⟨g, cap, cur, rfl, _, hh, _⟩
    · simp [Value.ownBlock] at e
    · simp [Value.ownBlock] at e
      subst e
      have := hh.symm.trans h.cell
      simp at this
  have hal : ∀ k, k < w.heap.size → (w.drew.alloc o).heap[k]? = w.heap[k]? := fun k hk => Below.heap_alloc w.drew o k hk
  have hsz : (w.drew.alloc o).heap.size = w.heap.size + 1 := by simp
  have hc1 : w1.heap[p]? = some (.cells #[v] 235 (0, 0)) := by
    rw [hg.block p (by omega) (Ne.symm hv), hal p hp]; exact h.cell
  have hv1 : v1.ownBlock ≠ some p := fun e => by
    rcases hat with e2 | e2
    · exact hv (e2.symm.trans e)
    · rw [e2] at e; have := Option.some.inj e; omega
  refine ⟨⟨h.base, ?_, ?_⟩, ⟨?_, ?_, ?_, ?_, ?_, ?_⟩⟩
  · rw [heap_setCell_same w1 p 0 _ _ v1 hc1]; rfl
  · rw [List.length_append, bytesOf_append]
    refine ⟨hown.1, ?_⟩
    rcases hown.2 with h2 | ⟨g, cap, cur, hvv, hgb, hh, r⟩
    · exact .inl h2
    · refine .inr ⟨g, cap, cur, hvv, hgb, ?_, r⟩
      rw [heap_setCell_other _ _ _ _ (by intro e; apply hv1; rw [hvv, e]; rfl)]
      exact hh
  · exact hg.os
  · exact hg.tape
  · exact hg.output
  · have := hg.size; simp [World.setCell]; omega
  · intro k hk hkp hkv
    rw [heap_setCell_other _ _ _ _ hkp, hg.block k (by omega) hkv, hal k hk]
  · rcases hat with e | e
    · exact .inl e
    · exact .inr ⟨_, e, by omega⟩
theorem wr_mid {B p : Nat} {w w1 : World} {v : Value} {bs : List UInt8} (h : IsWr B w p v bs) {o : Obj} (hg : (w.drew.alloc o).grownBy w1 v.ownBlock) :
    w1.cell? ⟨p, 0, none⟩ = some v ∧ w1.frozen? ⟨p, 0, none⟩ = false := by
  have hp : p < w.heap.size := (Array.getElem?_eq_some_iff.1 h.cell).1
  have hv : v.ownBlock ≠ some p := fun e => by
    rcases h.own.2 with ⟨rfl, _⟩ | ⟨g, cap, cur, rfl, _, hh, _⟩
    · simp [Value.ownBlock] at e
    · simp [Value.ownBlock] at e
      subst e
      have := hh.symm.trans h.cell
      simp at this
  have hc1 : w1.heap[p]? = some (.cells #[v] 235 (0, 0)) := by
    rw [hg.block p (by simp; omega) (Ne.symm hv)]
    exact (Below.heap_alloc w.drew o p hp).trans h.cell
  exact ⟨by rw [cell_of_row _ _ _ _ _ _ hc1]; rfl, frozen_of_row _ _ _ _ _ hc1⟩
theorem cells_one (w : World) (v : Value) (t : TypeId) : ∀ (j : Nat) u, [v][j]? = some u → (w.alloc (.cells #[v] t)).cell? ((⟨w.heap.size, 0, none⟩ : Addr).add j) = some u := by
  intro j u hj
  match j, hj with
  | 0, hj =>
    simp at hj
    subst hj
    show (w.alloc (.cells #[v] t)).cell? ⟨w.heap.size, 0, none⟩ = _
    rw [World.cell?_alloc_new]
    rfl
theorem one_byte (b : UInt8) : ∀ u ∈ [Value.int .u8 (b.toNat : Nat)], u.oneCell' = true := by
  intro u hu
  simp at hu
  subst hu
  rfl
theorem byte_val (x m : Nat) : IntKind.u8.wrap ((x : Int) / 2 ^ (8 * (m : Int)).toNat) = (((byteAt x m).toNat : Nat) : Int) := by
  rw [byteAt_toNat, IntKind.wrap_u8, show (8 * (m : Int)).toNat = 8 * m from by omega]
  have e : (2 : Int) ^ (8 * m) = ((256 ^ m : Nat) : Int) := by
    rw [Int.natCast_pow, Int.pow_mul]; rfl
  rw [e]
  omega
set_option maxHeartbeats 2000000 in
set_option maxRecDepth 100000 in
theorem fixed_any (B p : Nat) (x n : Nat) (hx : x < 18446744073709551616) (hn : n ≤ 8) (w : World) (v : Value) (bs : List UInt8) (h : IsWr B w p v bs) (hB : B ≤ w.heap.size) (hl : bs.length + n ≤ 140737488355328) :
    Calls Tryz.prog 138 #[.pointer (some ⟨p, 0, none⟩), .int .u64 x, .int .i64 n] w fun e w' => e = .returned (.tuple #[]) ∧ ∃ v', IsWr B w' p v' (bs ++ be x n) ∧ Moved w w' p v v' := by
  obtain ⟨i0, hi, hz0, hz1, hz2⟩ := info_parts infoU8
  go_enter Tryz.func138, Tryz.ntmps138
  go_wp2
  go_loopw [2] (fun i wr => ∃ (m : Nat) (W : List UInt8) (v' : Value), m ≤ n ∧ i = .int .i64 ((m : Int) - 1) ∧ W ++ be x m = be x n ∧ IsWr B wr p v' (bs ++ W) ∧ Moved w wr p v v') (fun i _ => (intOf i + 1).toNat)
  case atStart => exact ⟨n, [], v, Nat.le_refl _, rfl, rfl, by simpa using h, Moved.refl _ _ _⟩
  case round =>
    obtain ⟨m, W, v', hm, rfl, hW, hwr, hmv⟩ := hrel
    have HW := Lib.hid hW; have HR := Lib.hid hwr; have HM := Lib.hid hmv
    clear hW hwr hmv
    match m, hm, HW with
    | 0, _, HW =>
      have hw0 : W = be x n := by have := HW.out; simpa [be] using this
      have HW0 := Lib.hid hw0
      clear hw0
      go_wp2
      go_end0
      exact ⟨rfl, v', by rw [← HW0.out]; exact HR.out, HM.out⟩
    | m + 1, hm, HW =>
      have hcell : wr.cell? ⟨p, 0, none⟩ = some v' := by rw [cell_of_row _ _ _ _ _ _ HR.out.cell]; rfl
      have hfr := frozen_of_row wr p 0 _ _ HR.out.cell
      have hca : ∀ o, (wr.alloc o).cell? ⟨p, 0, none⟩ = some v' := fun o => (World.cell?_alloc_lt _ _ _ (World.block_lt_of_cell? wr _ hcell)).trans hcell
      have e1 : (((m + 1 : Nat) : Int) - 1) = (m : Int) := by omega
      rw [e1]
      clear e1
      have hm0 : (0 : Int) ≤ (m : Int) := by omega
      have hmul : IntKind.i64.wrap (8 * (m : Int)) = 8 * (m : Int) := IntWalk.i64_in _ (by omega)
      have hval := byte_val x m
      have hbl : (bs ++ W).length + 1 ≤ 140737488355328 := by
        have := congrArg List.length HW.out
        rw [be_length, List.length_append, be_length] at this
        simp; omega
      have hbm : (bs ++ W).length + 1 ≤ maxLen := by unfold maxLen; omega
      have HBL := Lib.hid hbl; have HBM := Lib.hid hbm
      clear hbl hbm
      generalize hb : byteAt x m = b at hval
      have HBV := Lib.hid hb
      clear hb
      go_wp2_with fail
      go_region_law (refine step_append_lies _ rfl (.tmp 18) (.tmp 24) 23 rfl B 5 i0 (.int .u8 0) 1 1 Tryz.underlying23 hi hz0 hz1 hz2 rfl (by decide) v' (bs ++ W).length (bytesOf (bs ++ W)) rfl (HR.out.own.alloc _).drew ⟨wr.heap.size, 0, none⟩ 1 1 [.int .u8 (b.toNat : Nat)] rfl rfl (cells_one _ _ _) (one_byte b) (by decide) HBM.out (by have := HBL.out; omega) (by have := (HM.out.size); simp; omega) (wr.heap.size + 1) (by simp) ?_; intro g cap w1 hown hg hat hlt; obtain ⟨hc1, hf1⟩ := wr_mid HR.out (o := .cells #[.int .u8 (b.toNat : Nat)] 5) hg)
      all_goals
        have HS := Lib.hid (wr_step HR.out hown hg (hat.imp (fun e => e.symm) (fun e => by rw [e]; rfl)))
        rw [List.length_append] at HS
        have HW2 : Hid ((W ++ [b]) ++ be x m = be x n) := by have := HW.out; simp only [be, HBV.out] at this; rw [List.append_assoc]; exact this
        have HS1 : Hid (IsWr B (w1.setCell ⟨p, 0, none⟩ (.slice (some ⟨g, 0, none⟩) (bs.length + W.length + 1) cap)) p (.slice (some ⟨g, 0, none⟩) (bs.length + W.length + 1) cap) (bs ++ (W ++ [b]))) := by rw [← List.append_assoc]; exact HS.out.1
        clear hown hg hat hlt hc1 hf1
        go_wp2
        go_roundw
        case rel => exact ⟨m, W ++ [b], _, by omega, rfl, HW2.out, HS1.out, HM.out.trans HS.out.2⟩
        case measure => first | (simp [intOf]; done) | (simp [intOf]; omega)
end Go.Proofs.YtbhfbdcmamodcaaGreatDoor
