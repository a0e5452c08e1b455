/- The whole: chunks; sorting chunks that stand in order; The whole: five chunks that stand in order are sorted. -/
import Derived.Test.YtbhfbdcmamodcaaGreatDoorL37
import Derived.Test.YtbhfbdcmamodcaaGreatDoorProg
set_option linter.unusedVariables false
set_option linter.unusedSimpArgs false
namespace Go.Proofs.YtbhfbdcmamodcaaGreatDoor
open Go.RowKit
abbrev Chunk := Nat × ByteArray
def chunkV (x : Chunk) : List Value := [.int .u32 (x.1 : Nat), .string x.2]
theorem chunkW : Wide chunkV 2 := fun _ => rfl
theorem chunk_one (l : List Chunk) : ∀ u ∈ l.flatMap chunkV, u.oneCell' = true := by
  intro u hu
  obtain ⟨x, _, hx⟩ := List.mem_flatMap.1 hu
  simp [chunkV] at hx
  rcases hx with rfl | rfl <;> rfl
theorem chunk_cells {w : World} {a : Option Addr} {l : List Chunk} (h : CellsAt w a (l.flatMap chunkV)) {k : Nat} (hk : k < l.length) :
    ∃ b off, a = some ⟨b, off, none⟩ ∧ b < w.heap.size ∧ w.cell? ⟨b, off + k * 2, none⟩ = some (.int .u32 (l[k].1 : Nat)) ∧ w.cell? ⟨b, off + k * 2 + 1, none⟩ = some (.string l[k].2) := by
  obtain ⟨b, off, h1, h2, h3⟩ := h.elem chunkW hk (by decide)
  exact ⟨b, off, h1, h2, h3 0 _ rfl, h3 1 _ rfl⟩
theorem infoChunk : (Tryz.prog.info? 243).map (fun i => (i.zero, i.size, i.bytes)) = some (some (.agg #[.int .u32 0, .string ⟨#[]⟩]), 2, 24) := by kernel_rfl
theorem kCmp (x y : Chunk) (h : y.1 < x.1) (w : World) :
    Calls Tryz.prog 202 #[.agg #[.int .u32 (x.1 : Nat), .string x.2], .agg #[.int .u32 (y.1 : Nat), .string y.2]] w fun e w' => e = .returned (.int .i64 1) ∧ Below w.heap.size w w' := by
  have h1 : ((x.1 : Int) != x.1) = false := by simp
  have h2 : ((y.1 : Int) != y.1) = false := by simp
  have h3 : decide ((x.1 : Int) < y.1) = false := by simp; omega
  have h4 : decide ((y.1 : Int) < x.1) = true := by simp; omega
  have h5 : decide (x.1 < y.1) = false := by simp; omega
  have h6 : decide (y.1 < x.1) = true := by simp; omega
  go_enter Tryz.func202, Tryz.ntmps202
  go_wp2
  go_ret
  exact ⟨rfl, bl_alloc (bl_alloc (Below.refl _ w) _) _⟩
def Rising (l : List Chunk) : Prop := ∀ i j (hi : i < l.length) (hj : j < l.length), i < j → l[i].1 < l[j].1
set_option maxHeartbeats 4000000 in
set_option maxRecDepth 100000 in
theorem kIns (l : List Chunk) (hr : Rising l) (hl : l.length ≤ 1000) (a : Option Addr) (c : Nat) (w : World) (h : CellsAt w a (l.flatMap chunkV)) :
    Calls Tryz.prog 245 #[.slice a l.length c, .int .i64 0, .int .i64 l.length, .func (.func 202) #[] #[]] w fun e w' => e = .returned (.tuple #[]) ∧ Below w.heap.size w w' := by
  have HA := Lib.hid h; have HR := Lib.hid hr
  clear h hr
  go_enter Tryz.func245, Tryz.ntmps245
  go_wp2
  go_loopw [8] (fun iv wr => ∃ k : Nat, 1 ≤ k ∧ k ≤ l.length + 1 ∧ iv = .int .i64 k ∧ Below w.heap.size w wr) (fun iv _ => l.length + 1 - (intOf iv).toNat)
  case atStart => exact ⟨1, Nat.le_refl _, by omega, rfl, Below.refl _ _⟩
  case round =>
    obtain ⟨k, hk1, hk, rfl, hb⟩ := hrel
    have HB := Lib.hid hb
    clear hb
    by_cases hlt : k < l.length
    · have hdl : decide (k < l.length) = true := by simpa using hlt
      go_wp2
      go_loopw [9] (fun jv wq => jv = .int .i64 k ∧ Below w.heap.size w wq) (fun _ _ => 0)
      case atStart => exact ⟨rfl, HB.out⟩
      case round =>
        obtain ⟨rfl, hb2⟩ := hrel
        obtain ⟨b, off, rfl, _, p1, p2⟩ := chunk_cells (HA.out.below hb2) hlt
        obtain ⟨j, hj⟩ : ∃ j, k = j + 1 := ⟨k - 1, by omega⟩
        obtain ⟨b', off', h1, _, q1, q2⟩ := chunk_cells (HA.out.below hb2) (show j < l.length by omega)
        cases h1
        have hlt2 := HR.out j k (by omega) hlt (by omega)
        obtain ⟨x, hx⟩ : ∃ x, l[k] = x := ⟨_, rfl⟩
        obtain ⟨y, hy⟩ : ∃ y, l[j] = y := ⟨_, rfl⟩
        rw [hx] at p1 p2 hlt2
        rw [hy] at q1 q2 hlt2
        have hjz : (k : Int) - 1 = (j : Int) := by omega
        have hw1 : IntKind.i64.wrap ((k : Int) - 1) = (j : Int) := by rw [hjz]; exact IntWalk.i64_in _ (by omega)
        have hw2 : wrap64 ((k : Int) - 1) = (j : Int) := by rw [hjz]; exact IntWalk.wrap64_in _ (by omega)
        have hk0 : decide ((k : Int) > 0) = true := by simp; omega
        have hk2 : decide (0 < k) = true := by simp; omega
        have hjl : j < l.length := by omega
        have hjl2 : (j : Int) < (l.length : Int) := by omega
        have hkl2 : (k : Int) < (l.length : Int) := by omega
        have HB2 := Lib.hid hb2
        have C1 : ∀ z : Past wr, z.x.cell? ⟨b, off + k * 2, none⟩ = some (.int .u32 (x.1 : Nat)) := fun z => bl_cell z.b p1
        have C2 : ∀ z : Past wr, z.x.cell? ⟨b, off + k * 2 + 1, none⟩ = some (.string x.2) := fun z => bl_cell z.b p2
        have C3 : ∀ z : Past wr, z.x.cell? ⟨b, off + j * 2, none⟩ = some (.int .u32 (y.1 : Nat)) := fun z => bl_cell z.b q1
        have C4 : ∀ z : Past wr, z.x.cell? ⟨b, off + j * 2 + 1, none⟩ = some (.string y.2) := fun z => bl_cell z.b q2
        have HC := Lib.hid (fun z : Past wr => Calls.past z.b (kCmp x y hlt2 z.x))
        clear hj hx hy p1 p2 q1 q2 hb2 hlt2
        go_wp2_with fail
        refine wp_region_past (by kernel_rfl) (by kernel_rfl) ?_
        repeat (go_big_quiet_step ((go_at_call 202; (with_reducible exact HC.out _))))
        refine wpQuiet_nil ?_
        intro _ hw'
        obtain ⟨pq, hw''⟩ := hw'
        subst hw''
        have HBq := Lib.hid (bl_trans HB2.out pq.b)
        generalize pq.x = Wc at *
        go_wp2
        go_roundw
        case rel => exact ⟨k + 1, by omega, by omega, by go_num, HBq.out⟩
        case measure => simp [intOf]; omega
    · have hdl : decide (k < l.length) = false := by simpa using hlt
      go_wp2
      go_end0
      exact ⟨rfl, HB.out⟩
end Go.Proofs.YtbhfbdcmamodcaaGreatDoor
namespace Go.Proofs.YtbhfbdcmamodcaaGreatDoor
open Go.RowKit
set_option maxHeartbeats 2000000 in
set_option maxRecDepth 100000 in
theorem kPdq (l : List Chunk) (hr : Rising l) (h5 : l.length = 5) (a : Option Addr) (c : Nat) (lim : Int) (w : World) (h : CellsAt w a (l.flatMap chunkV)) :
    Calls Tryz.prog 232 #[.slice a 5 c, .int .i64 0, .int .i64 5, .int .i64 lim, .func (.func 202) #[] #[]] w fun e w' => e = .returned (.tuple #[]) ∧ Below w.heap.size w w' := by
  have HI := Lib.hid (show Calls Tryz.prog 245 #[.slice a 5 c, .int .i64 0, .int .i64 5, .func (.func 202) #[] #[]] w (fun e w' => e = .returned (.tuple #[]) ∧ Below w.heap.size w w') from by
    have := kIns l hr (by omega) a c w h
    rw [h5] at this
    exact this)
  clear h hr h5
  go_enter Tryz.func232, Tryz.ntmps232
  go_wp2
  go_loopw [1, 2] (fun av bv wr => av = .int .i64 0 ∧ bv = .int .i64 5 ∧ wr = w) (fun _ _ _ => 0)
  case atStart => exact ⟨rfl, rfl, rfl⟩
  case round =>
    obtain ⟨rfl, rfl, rfl⟩ := hrel
    go_wp2_with (go_at_call 245; (with_reducible refine HI.out.mono ?_); rintro e w1 ⟨rfl, hb⟩; have HB := Lib.hid hb; clear hb)
    exact bodyPost_ret (results_none rfl _ _ _) rfl ⟨rfl, HB.out⟩
set_option maxRecDepth 100000 in
theorem kLen (w : World) : Calls Tryz.prog 103 #[.int .u64 5] w fun e w' => (∃ n : Int, e = .returned (.int .i64 n)) ∧ w = w' := by
  go_enter Tryz.func103, Tryz.ntmps103
  go_wp2
  go_ret
  exact ⟨⟨_, rfl⟩, rfl⟩
set_option maxHeartbeats 2000000 in
set_option maxRecDepth 100000 in
theorem kSort (l : List Chunk) (hr : Rising l) (h5 : l.length = 5) (a : Option Addr) (c : Nat) (w : World) (h : CellsAt w a (l.flatMap chunkV)) :
    Calls Tryz.prog 201 #[.slice a 5 c, .func (.func 202) #[] #[]] w fun e w' => e = .returned (.tuple #[]) ∧ Below w.heap.size w w' := by
  have HP := Lib.hid (fun lim => kPdq l hr h5 a c lim w h)
  have HL := Lib.hid (kLen w)
  clear h hr h5
  go_enter Tryz.func201, Tryz.ntmps201
  go_wp2_with fail
  (with_reducible refine HL.out.mono ?_)
  rintro e w1 ⟨⟨n, rfl⟩, rfl⟩
  go_wp2_with (go_at_call 232; (with_reducible refine (HP.out _).mono ?_); rintro e w1 ⟨rfl, hb⟩; have HB := Lib.hid hb; clear hb)
  go_end0
  exact ⟨rfl, HB.out⟩
end Go.Proofs.YtbhfbdcmamodcaaGreatDoor
