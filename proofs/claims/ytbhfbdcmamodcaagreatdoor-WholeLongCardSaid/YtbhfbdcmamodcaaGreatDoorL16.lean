/- The whole: names of the simulated disk change; The whole: a file is made on the simulated disk; The whole: Create; The whole: how much the disk holds; The whole: files are written, synced; what the disk is behind it; The whole: Append; The whole: Append, Sync; The whole: Sync, SyncNames, Read; The whole: SyncNames; The whole: Rename, Remove; The whole: steps behind one another, the first error counts. -/
import Derived.Test.YtbhfbdcmamodcaaGreatDoorL15
import Derived.Test.YtbhfbdcmamodcaaGreatDoorL10
import Derived.Laws.Externs
import Derived.MapKept
import Derived.Deep.RegionHeld3
import Derived.Deep.RegionLaw
import Derived.Maps.RangeWalk
import Derived.BigRegion
set_option linter.unusedVariables false
set_option linter.unusedSimpArgs false
namespace Go.Proofs.YtbhfbdcmamodcaaGreatDoor
open Go.RowKit Go.Maps
theorem eq_map_nil {P : Program} (w : World) (t k e : TypeId) (p : Option Nat) (h : P.underlying t = some (.map k e)) : (binOp .eql t (.map p) (.map none)).run P w = .ok (.bool p.isNone) w := by
  have h2 : ∀ d, (Op.equalIn (d + 1) t (.map p) (.map none)).run P w = .ok p.isNone w := fun d => by cases p <;> simp [Op.equalIn, run_underlying h]
  simp only [binOp]
  simp [show Op.equal t (.map p) (.map none) = Op.equalIn (9999 + 1) t (.map p) (.map none) from rfl, h2 9999]
theorem assert_map {P : Program} (w : World) (t xT k e : TypeId) (v : Value) (h : P.underlying t = some (.map k e)) : (Instr.typeAssert (.iface t v) xT t false).run P w = .ok v w := by
  simp [Instr.typeAssert, run_underlying h, go_sem, Result.andThen]
theorem run_clone {P : Program} (w : World) {r : Nat} {es : Array MapEntry} {clock : Nat} (t : TypeId) (hb : w.heap[r]? = some (.map es clock)) :
    (Extern.MapsClone.clone #[.iface t (.map (some r))]).run P w = .ok (.iface t (.map (some w.heap.size))) (w.alloc (.map es clock)) := by
  have e : Extern.MapsClone.clone #[.iface t (.map (some r))] = (getObj r >>= fun o => match o with
      | .map entries clock => (newObj (.map entries clock) >>= fun n => pure (.iface t (.map (some n))))
      | _ => stuck "maps.clone: a map expected") := rfl
  rw [e]
  simp [MapKept.run_getObj_map hb, Result.andThen, go_sem]
set_option maxRecDepth 100000 in
/-- A map of files is copied. -/
theorem sMapsClone (b n : Nat) (D : DataW Unit) (w : World) (h : w.ownsMap Tryz.prog 9 fileR b n D) :
    Calls Tryz.prog 59 #[.map (some b)] w fun e w' => e = .returned (.map (some w.heap.size)) ∧ Below w.heap.size w w' := by
  obtain ⟨es, clock, hb, _⟩ := h
  have hq := fun w => eq_map_nil (P := Tryz.prog) w 70 _ _ (some b) Tryz.underlying70
  go_enter Tryz.func59, Tryz.ntmps59
  go_wp2
  rw [run_callFunc_extern Tryz.func123 (by kernel_rfl) (by kernel_rfl) (by kernel_rfl) (e := Extern.MapsClone.clone) (by kernel_rfl), run_clone w 70 hb]
  simp only [Result.andThen]
  rw [Oper.upon_value]
  go_wp2
  rw [assert_map _ 70 _ _ _ _ Tryz.underlying70]
  simp only [Result.andThen]
  rw [Oper.upon_value]
  go_wp2
  go_ret
  exact ⟨rfl, bl_alloc (Below.refl _ w) _⟩
theorem infoChg : (Tryz.prog.info? 135).map (fun i => (i.zero, i.size, i.bytes)) = some (some (.agg #[.string ⟨#[]⟩, .string ⟨#[]⟩, .pointer none]), 3, 40) := by kernel_rfl
def Changed (p : Nat) (d : DiskS) (fs : List FileE) (w w' : World) : Prop :=
  ∃ pend, DiskAt w' p ⟨d.m, pend, d.pn + 1, fs⟩ ∧ Upd (fun k => k = p ∨ k = d.m ∨ d.pend.ownBlock = some k) w w' ∧ (pend.ownBlock = d.pend.ownBlock ∨ ∃ g, pend.ownBlock = some g ∧ w.heap.size ≤ g) ∧ (∀ c, w.cell? ⟨p, 1, none⟩ = some c → w'.cell? ⟨p, 1, none⟩ = some c)
theorem changed_of {p c3 gg cap n : Nat} {d : DiskS} {fs : List FileE} {w W1 w1 x w2 : World} {D : DataW Unit} {vs : List Value} {c1' : Int}
    (hd : DiskAt w p d) (hbox : w.heap[p]? = some (.cells #[.int .i64 16777216, .int .i64 c1', .map (some d.m), .map (some c3), d.pend, .int .i64 0, .bool false] 73 (0, 0)))
    (hW1 : Below w.heap.size w W1) (hm : w1.ownsMap Tryz.prog 9 fileR d.m n D) (hR : Reads D fs) (hu : Upd (· = d.m) W1 w1)
    (hx : Below w1.heap.size w1 x) (hg : x.grownBy w2 d.pend.ownBlock) (hown : w2.ownsRow 0 135 3 (.slice (some ⟨gg, 0, none⟩) (d.pn + 1) cap) (d.pn + 1) vs) (hat : d.pend.ownBlock = some gg ∨ gg = x.heap.size)
    (hf : ∀ f ∈ fs, FileAt w f) (hap : (p :: d.m :: (d.pend.ownBlock.toList ++ fs.flatMap FileE.own)).Nodup) :
    Changed p d fs w (w2.setCell ⟨p, 4, none⟩ (.slice (some ⟨gg, 0, none⟩) (d.pn + 1) cap)) := by
  obtain ⟨hp1, hp2⟩ := List.nodup_cons.1 hap
  obtain ⟨hp3, hp4⟩ := List.nodup_cons.1 hp2
  obtain ⟨hp5, hp6, hp7⟩ := List.nodup_append.1 hp4
  have hpl : p < w.heap.size := hd.lt _ own_p
  have hml : d.m < w.heap.size := hd.lt _ own_m
  have hpb : ∀ g, d.pend.ownBlock = some g → g < w.heap.size := fun g e => hd.lt _ (own_pend e)
  have hpm : p ≠ d.m := fun e => hp1 (by simp [e])
  have hpp : d.pend.ownBlock ≠ some p := fun e => hp1 (by simp [e])
  have hmp : d.pend.ownBlock ≠ some d.m := fun e => hp3 (by simp [e])
  have hz1 := hW1.size
  have hz2 := hu.size
  have hz3 := hx.size
  have hz4 := hg.size
  have hU : Upd (fun k => k = p ∨ k = d.m ∨ d.pend.ownBlock = some k) w (w2.setCell ⟨p, 4, none⟩ (.slice (some ⟨gg, 0, none⟩) (d.pn + 1) cap)) := by
    have a1 : Upd (fun k => k = p ∨ k = d.m ∨ d.pend.ownBlock = some k) w w1 := (Upd.of hW1).trans hu (fun i e => .inl (.inr (.inl e)))
    have a2 := (a1.thenB hx).grown hg (fun g e => .inl (.inr (.inr e)))
    exact a2.set p 4 _ (.inl (.inl rfl))
  have hgp : gg ≠ p := by
    rcases hat with e | e
    · exact fun k => hpp (by rw [e, k])
    · omega
  have hgm : gg ≠ d.m := by
    rcases hat with e | e
    · exact fun k => hmp (by rw [e, k])
    · omega
  have hb2 : w2.heap[p]? = w.heap[p]? := by
    rw [hg.block p (by omega) (Ne.symm hpp), hx.block p (by omega), hu.block p (by omega) hpm, hW1.block p hpl]
  have hm2 : w2.ownsMap Tryz.prog 9 fileR d.m n D := map_stays hm (by rw [hg.block d.m (by omega) (Ne.symm hmp), hx.block d.m (by omega)])
  have hbx : (w2.setCell ⟨p, 4, none⟩ (.slice (some ⟨gg, 0, none⟩) (d.pn + 1) cap)).heap[p]? = some (.cells #[.int .i64 16777216, .int .i64 c1', .map (some d.m), .map (some c3), .slice (some ⟨gg, 0, none⟩) (d.pn + 1) cap, .int .i64 0, .bool false] 73 (0, 0)) := by
    rw [heap_setCell_same w2 p 4 _ _ _ (hb2.trans hbox)]
    rfl
  refine ⟨.slice (some ⟨gg, 0, none⟩) (d.pn + 1) cap, ⟨⟨c1', c3, hbx⟩, ⟨D, ?_, hR⟩, ⟨vs, ?_⟩, fun f hfm => ?_, ?_⟩, hU, ?_, fun c hc => ?_⟩
  · have := map_tight (hm2.setCell (a := ⟨p, 4, none⟩) (Ne.symm hpm) (.slice (some ⟨gg, 0, none⟩) (d.pn + 1) cap))
    rw [hR.size] at this
    exact this
  · exact row_stays hown fun g e => heap_setCell_other _ _ _ _ (by cases e; exact hgp)
  · refine (hf f hfm).stays fun k hk => ?_
    have hk2 : k ∈ fs.flatMap FileE.own := List.mem_flatMap.2 ⟨f, hfm, hk⟩
    refine hU.block k ((hf f hfm).lt k hk) ?_
    rintro (rfl | rfl | e)
    · exact hp1 (by simp [hk2])
    · exact hp3 (by simp [hk2])
    · exact hp7 k (by simp [e]) k hk2 rfl
  · show (p :: d.m :: (([gg] : List Nat) ++ fs.flatMap FileE.own)).Nodup
    have hgf : gg ∉ fs.flatMap FileE.own := fun hm3 => by
      rcases hat with e | e
      · exact hp7 gg (by simp [e]) gg hm3 rfl
      · obtain ⟨f, h3, h4⟩ := List.mem_flatMap.1 hm3
        have := (hf f h3).lt gg h4
        omega
    have hp1' : p ∉ fs.flatMap FileE.own := fun h => hp1 (by simp [h])
    have hp3' : d.m ∉ fs.flatMap FileE.own := fun h => hp3 (by simp [h])
    refine List.nodup_cons.2 ⟨?_, List.nodup_cons.2 ⟨?_, List.nodup_cons.2 ⟨hgf, hp6⟩⟩⟩
    · simp [hpm, Ne.symm hgp, hp1']
    · simp [Ne.symm hgm, hp3']
  · rcases hat with e | e
    · exact .inl e.symm
    · exact .inr ⟨gg, rfl, by omega⟩
  · rw [cell_of_row _ _ _ _ _ _ hbox] at hc
    rw [cell_of_row _ _ _ _ _ _ hbx]
    exact hc
theorem Upd.undrew {F : Foot} {w x : World} (h : Upd F w.drew x) : Upd F w x := ⟨h.os, h.tape, h.output, h.size, h.block⟩
structure MidD (p : Nat) (d : DiskS) (H : Nat) (gone nm : ByteArray) (b : Option Addr) (xs : List Value) (n : Nat) (D : DataW Unit) (c1 : Int) (c3 : Nat) (W1 w1 : World) : Prop where
  box : w1.heap[p]? = some (.cells #[.int .i64 16777216, .int .i64 c1, .map (some d.m), .map (some c3), d.pend, .int .i64 0, .bool false] 73 (0, 0))
  chg : w1.heap[H]? = some (.cells #[.string gone, .string nm, .pointer b] 135 (0, 0))
  pend : w1.ownsRow 0 135 3 d.pend d.pn xs
  map : w1.ownsMap Tryz.prog 9 fileR d.m n D
  upd : Upd (· = d.m) W1 w1
theorem mid_of {p H c3 n : Nat} {b : Option Addr} {c1 : Int} {d : DiskS} {gone nm : ByteArray} {xs : List Value} {D : DataW Unit} {w W1 w1 : World} (hd : DiskAt w p d) (hz : w.heap.size = H)
    (hbox : w.heap[p]? = some (.cells #[.int .i64 16777216, .int .i64 c1, .map (some d.m), .map (some c3), d.pend, .int .i64 0, .bool false] 73 (0, 0)))
    (hp : w.ownsRow 0 135 3 d.pend d.pn xs) (hW : Below w.heap.size w W1) (hc : W1.heap[H]? = some (.cells #[.string gone, .string nm, .pointer b] 135 (0, 0)))
    (hm : w1.ownsMap Tryz.prog 9 fileR d.m n D) (hu : Upd (· = d.m) W1 w1) (hpm : p ≠ d.m) (hmp : d.pend.ownBlock ≠ some d.m) : MidD p d H gone nm b xs n D c1 c3 W1 w1 := by
  have hpl : p < w.heap.size := hd.lt _ own_p
  have hml : d.m < w.heap.size := hd.lt _ own_m
  have hs := hW.size
  refine ⟨?_, ?_, row_stays hp fun g e => ?_, hm, hu⟩
  · rw [hu.block p (by omega) hpm, hW.block p hpl]; exact hbox
  · rw [hu.block H (Array.getElem?_eq_some_iff.1 hc).1 (by omega)]; exact hc
  · have hg : g < w.heap.size := hd.lt _ (own_pend e)
    rw [hu.block g (by omega) (fun k => hmp (by rw [e, k])), hW.block g hg]
theorem MidD.cells {p H c3 n : Nat} {b : Option Addr} {c1 : Int} {d : DiskS} {gone nm : ByteArray} {xs : List Value} {D : DataW Unit} {W1 w1 : World} (h : MidD p d H gone nm b xs n D c1 c3 W1 w1) :
    w1.cell? ⟨p, 2, none⟩ = some (.map (some d.m)) ∧ w1.cell? ⟨H, 0, none⟩ = some (.string gone) ∧ w1.cell? ⟨H, 1, none⟩ = some (.string nm) ∧ w1.cell? ⟨H, 2, none⟩ = some (.pointer b) :=
  ⟨by rw [cell_of_row _ _ _ _ _ _ h.box]; rfl, by rw [cell_of_row _ _ _ _ _ _ h.chg]; rfl, by rw [cell_of_row _ _ _ _ _ _ h.chg]; rfl, by rw [cell_of_row _ _ _ _ _ _ h.chg]; rfl⟩
theorem MidD.c4 {p H c3 n : Nat} {b : Option Addr} {c1 : Int} {d : DiskS} {gone nm : ByteArray} {xs : List Value} {D : DataW Unit} {W1 w1 : World} (h : MidD p d H gone nm b xs n D c1 c3 W1 w1) : w1.cell? ⟨p, 4, none⟩ = some d.pend := by
  rw [cell_of_row _ _ _ _ _ _ h.box]; rfl
theorem MidD.after {p H c3 n : Nat} {b : Option Addr} {c1 : Int} {d : DiskS} {gone nm : ByteArray} {xs : List Value} {D : DataW Unit} {W1 w1 w2 : World} (h : MidD p d H gone nm b xs n D c1 c3 W1 w1) {o : Obj} (hg : (w1.drew.alloc o).grownBy w2 d.pend.ownBlock) (hp : d.pend.ownBlock ≠ some p) :
    w2.cell? ⟨p, 4, none⟩ = some d.pend ∧ w2.frozen? ⟨p, 4, none⟩ = false := by
  have hpl : p < w1.heap.size := (Array.getElem?_eq_some_iff.1 h.box).1
  have hb : w2.heap[p]? = _ := (hg.block p (by simp; omega) (Ne.symm hp)).trans ((Below.heap_alloc w1.drew o p hpl).trans h.box)
  exact ⟨by rw [cell_of_row _ _ _ _ _ _ hb]; rfl, frozen_of_row _ _ _ _ _ hb⟩
theorem cells_tripD (w : World) (u v x : Value) (t : TypeId) : ∀ (j : Nat) y, [u, v, x][j]? = some y → (w.alloc (.cells #[u, v, x] t)).cell? ((⟨w.heap.size, 0, none⟩ : Addr).add j) = some y :=
  cells_new w [u, v, x] t rfl
theorem one_chg (s t : ByteArray) (a : Option Addr) : ∀ u ∈ [Value.string s, .string t, .pointer a], u.oneCell' = true := by
  intro u hu; simp at hu; rcases hu with rfl | rfl | rfl <;> rfl
set_option maxHeartbeats 4000000 in
set_option maxRecDepth 100000 in
theorem sChange (p : Nat) (d : DiskS) (gone : ByteArray) (f : FileE) (w : World) (hd : DiskAt w p d) (hg : gone.size ≤ maxLen) (hn : f.name.size ≤ maxLen) (hpn : d.pn ≤ 1000000) (hl : d.fs.length ≤ 1000000) (hf : FileAt w f)
    (hap : (p :: d.m :: (d.pend.ownBlock.toList ++ (offF f.name (offF gone d.fs) ++ [f]).flatMap FileE.own)).Nodup) :
    Calls Tryz.prog 57 #[.pointer (some ⟨p, 0, none⟩), .agg #[.string gone, .string f.name, .pointer (some ⟨f.blk, 0, none⟩)]] w fun e w' => e = .returned (.tuple #[]) ∧ Changed p d (offF f.name (offF gone d.fs) ++ [f]) w w' := by
  obtain ⟨c1, c3, hbox⟩ := hd.box
  obtain ⟨D, hD, hR⟩ := hd.map
  obtain ⟨xs, hpd⟩ := hd.pend
  obtain ⟨i0, hi, hz0, hz1, hz2⟩ := info_parts infoChg
  have hpl : p < w.heap.size := hd.lt _ own_p
  have hml : d.m < w.heap.size := hd.lt _ own_m
  have hpm : p ≠ d.m := fun e => (List.nodup_cons.1 hap).1 (by simp [e])
  have hpp : d.pend.ownBlock ≠ some p := fun e => (List.nodup_cons.1 hap).1 (by simp [e])
  have hmp : d.pend.ownBlock ≠ some d.m := fun e => (List.nodup_cons.1 (List.nodup_cons.1 hap).2).1 (by simp [e])
  have hdc : ∀ g ∈ offF f.name (offF gone d.fs) ++ [f], FileAt w g := fun g h => by
    rcases List.mem_append.1 h with h | h
    · exact hd.files g (off_mem.1 (off_mem.1 h).1).1
    · rw [List.mem_singleton] at h; subst h; exact hf
  obtain ⟨o, ho⟩ : ∃ o, Obj.cells #[.string gone, .string f.name, .pointer (some ⟨f.blk, 0, none⟩)] 135 = o := ⟨_, rfl⟩
  have hR2 := hR.change gone f
  have HDo := Lib.hid (sDo gone f.name f.blk d.m d.fs.length D (w.alloc o).drew hg hn (by unfold maxLen; omega) ((hD.alloc o).drew))
  have hb0 : (w.alloc o).heap[w.heap.size]? = some o := heap_alloc_new w o
  have hbp : (w.alloc o).heap[p]? = w.heap[p]? := Below.heap_alloc _ _ _ hpl
  have c2 : (w.alloc o).drew.cell? ⟨p, 2, none⟩ = some (.map (some d.m)) := by
    rw [cell_of_row _ _ _ _ _ _ (show (w.alloc o).drew.heap[p]? = _ from hbp.trans hbox)]; rfl
  have hpend := hbox
  subst ho
  have HD := Lib.hid hd
  have HPD := Lib.hid hpd
  have HBX := Lib.hid hbox
  have HFs := Lib.hid hdc
  have HAP := Lib.hid hap
  have HR := Lib.hid hR2
  have Q1 := Lib.hid (show (w.alloc (.cells #[.string gone, .string f.name, .pointer (some ⟨f.blk, 0, none⟩)] 135)).cell? ⟨p, 2, none⟩ = some (.map (some d.m)) ∧ (w.alloc (.cells #[.string gone, .string f.name, .pointer (some ⟨f.blk, 0, none⟩)] 135)).cell? ⟨w.heap.size, 0, none⟩ = some (.string gone) ∧ (w.alloc (.cells #[.string gone, .string f.name, .pointer (some ⟨f.blk, 0, none⟩)] 135)).cell? ⟨w.heap.size, 1, none⟩ = some (.string f.name) ∧ (w.alloc (.cells #[.string gone, .string f.name, .pointer (some ⟨f.blk, 0, none⟩)] 135)).cell? ⟨w.heap.size, 2, none⟩ = some (.pointer (some ⟨f.blk, 0, none⟩)) from
    ⟨c2, by rw [cell_of_row _ _ _ _ _ _ hb0]; rfl, by rw [cell_of_row _ _ _ _ _ _ hb0]; rfl, by rw [cell_of_row _ _ _ _ _ _ hb0]; rfl⟩)
  have HWB := Lib.hid (show Below w.heap.size w (w.alloc (.cells #[.string gone, .string f.name, .pointer (some ⟨f.blk, 0, none⟩)] 135)) ∧ (w.alloc (.cells #[.string gone, .string f.name, .pointer (some ⟨f.blk, 0, none⟩)] 135)).heap[w.heap.size]? = some (.cells #[.string gone, .string f.name, .pointer (some ⟨f.blk, 0, none⟩)] 135 (0, 0)) from ⟨bl_alloc (Below.refl _ w) _, hb0⟩)
  clear hd hD hR hpd hbox hdc hap hR2 hpend hf hb0 hbp c2
  go_enter Tryz.func57, Tryz.ntmps57
  go_wp2
  generalize hW1 : w.alloc (.cells #[.string gone, .string f.name, .pointer (some ⟨f.blk, 0, none⟩)] 135) = W1 at *
  go_region_held3 (fun w' => w'.cell? ⟨p, 2, none⟩ = some (.map (some d.m)) ∧ w'.cell? ⟨w.heap.size, 0, none⟩ = some (.string gone) ∧ w'.cell? ⟨w.heap.size, 1, none⟩ = some (.string f.name) ∧ w'.cell? ⟨w.heap.size, 2, none⟩ = some (.pointer (some ⟨f.blk, 0, none⟩)))
    (first | exact Q2.out.cells | exact Q1.out)
    (first
      | (go_at_call 122; (with_reducible refine HDo.out.mono ?_); rintro e w1 ⟨rfl, hm1, hu1⟩; have Q2 := Lib.hid (mid_of HD.out rfl HBX.out HPD.out HWB.out.1 HWB.out.2 hm1 (Upd.undrew hu1) hpm hmp); clear hm1 hu1))
  all_goals
    obtain ⟨c2, q0, q1, q2⟩ := Q2.out.cells
    have c4 := Q2.out.c4
    have c4a : ∀ o, (w1.alloc o).cell? ⟨p, 4, none⟩ = some d.pend := fun o => cell_al c4 o
    go_wp2_with fail
    go_region_law (refine step_append_lies _ rfl (.tmp 14) (.tmp 16) 71 rfl 0 135 i0 (.agg #[.string ⟨#[]⟩, .string ⟨#[]⟩, .pointer none]) 3 40 Tryz.underlying71 hi hz0 hz1 hz2 rfl (by decide) d.pend d.pn xs rfl (Q2.out.pend.drew.alloc _) _ 1 1 [.string gone, .string f.name, .pointer (some ⟨f.blk, 0, none⟩)] rfl rfl (cells_tripD _ _ _ _ _) (one_chg _ _ _) (by decide) (by unfold maxLen; omega) (by omega) (by simp) _ rfl ?_; intro gg cp w2 hown hg hat hlt; obtain ⟨hc1, hf1⟩ := Q2.out.after hg hpp)
    all_goals
      have HC := Lib.hid (changed_of HD.out HBX.out HWB.out.1 Q2.out.map HR.out Q2.out.upd (bl_alloc (bl_drew (Below.refl _ w1)) _) hg hown hat HFs.out HAP.out)
      clear hown hg hat hlt
      go_wp2
      exact bodyPost_end (v := .tuple #[]) (by simp [results, Tryz.results57, go_sem]) rfl ⟨rfl, HC.out⟩
set_option maxHeartbeats 4000000 in
set_option maxRecDepth 100000 in
/-- A change that takes a name away. -/
theorem sChangeNil (p : Nat) (d : DiskS) (gone nm : ByteArray) (w : World) (hd : DiskAt w p d) (hg : gone.size ≤ maxLen) (hpn : d.pn ≤ 1000000) (hl : d.fs.length ≤ 1000000)
    (hap : (p :: d.m :: (d.pend.ownBlock.toList ++ (offF gone d.fs).flatMap FileE.own)).Nodup) :
    Calls Tryz.prog 57 #[.pointer (some ⟨p, 0, none⟩), .agg #[.string gone, .string nm, .pointer none]] w fun e w' => e = .returned (.tuple #[]) ∧ Changed p d (offF gone d.fs) w w' := by
  obtain ⟨c1, c3, hbox⟩ := hd.box
  obtain ⟨D, hD, hR⟩ := hd.map
  obtain ⟨xs, hpd⟩ := hd.pend
  obtain ⟨i0, hi, hz0, hz1, hz2⟩ := info_parts infoChg
  have hpl : p < w.heap.size := hd.lt _ own_p
  have hml : d.m < w.heap.size := hd.lt _ own_m
  have hpm : p ≠ d.m := fun e => (List.nodup_cons.1 hap).1 (by simp [e])
  have hpp : d.pend.ownBlock ≠ some p := fun e => (List.nodup_cons.1 hap).1 (by simp [e])
  have hmp : d.pend.ownBlock ≠ some d.m := fun e => (List.nodup_cons.1 (List.nodup_cons.1 hap).2).1 (by simp [e])
  have hdc : ∀ g ∈ offF gone d.fs, FileAt w g := fun g h => by
    exact hd.files g (off_mem.1 h).1
  obtain ⟨o, ho⟩ : ∃ o, Obj.cells #[.string gone, .string nm, .pointer none] 135 = o := ⟨_, rfl⟩
  have hR2 := hR.del gone
  have HDo := Lib.hid (sDoNil gone nm d.m d.fs.length D (w.alloc o).drew hg ((hD.alloc o).drew))
  have hb0 : (w.alloc o).heap[w.heap.size]? = some o := heap_alloc_new w o
  have hbp : (w.alloc o).heap[p]? = w.heap[p]? := Below.heap_alloc _ _ _ hpl
  have c2 : (w.alloc o).drew.cell? ⟨p, 2, none⟩ = some (.map (some d.m)) := by
    rw [cell_of_row _ _ _ _ _ _ (show (w.alloc o).drew.heap[p]? = _ from hbp.trans hbox)]; rfl
  have hpend := hbox
  subst ho
  have HD := Lib.hid hd
  have HPD := Lib.hid hpd
  have HBX := Lib.hid hbox
  have HFs := Lib.hid hdc
  have HAP := Lib.hid hap
  have HR := Lib.hid hR2
  have Q1 := Lib.hid (show (w.alloc (.cells #[.string gone, .string nm, .pointer none] 135)).cell? ⟨p, 2, none⟩ = some (.map (some d.m)) ∧ (w.alloc (.cells #[.string gone, .string nm, .pointer none] 135)).cell? ⟨w.heap.size, 0, none⟩ = some (.string gone) ∧ (w.alloc (.cells #[.string gone, .string nm, .pointer none] 135)).cell? ⟨w.heap.size, 1, none⟩ = some (.string nm) ∧ (w.alloc (.cells #[.string gone, .string nm, .pointer none] 135)).cell? ⟨w.heap.size, 2, none⟩ = some (.pointer none) from
    ⟨c2, by rw [cell_of_row _ _ _ _ _ _ hb0]; rfl, by rw [cell_of_row _ _ _ _ _ _ hb0]; rfl, by rw [cell_of_row _ _ _ _ _ _ hb0]; rfl⟩)
  have HWB := Lib.hid (show Below w.heap.size w (w.alloc (.cells #[.string gone, .string nm, .pointer none] 135)) ∧ (w.alloc (.cells #[.string gone, .string nm, .pointer none] 135)).heap[w.heap.size]? = some (.cells #[.string gone, .string nm, .pointer none] 135 (0, 0)) from ⟨bl_alloc (Below.refl _ w) _, hb0⟩)
  clear hd hD hR hpd hbox hdc hap hR2 hpend hb0 hbp c2
  go_enter Tryz.func57, Tryz.ntmps57
  go_wp2
  generalize hW1 : w.alloc (.cells #[.string gone, .string nm, .pointer none] 135) = W1 at *
  go_region_held3 (fun w' => w'.cell? ⟨p, 2, none⟩ = some (.map (some d.m)) ∧ w'.cell? ⟨w.heap.size, 0, none⟩ = some (.string gone) ∧ w'.cell? ⟨w.heap.size, 1, none⟩ = some (.string nm) ∧ w'.cell? ⟨w.heap.size, 2, none⟩ = some (.pointer none))
    (first | exact Q2.out.cells | exact Q1.out)
    (first
      | (go_at_call 122; (with_reducible refine HDo.out.mono ?_); rintro e w1 ⟨rfl, hm1, hu1⟩; have Q2 := Lib.hid (mid_of HD.out rfl HBX.out HPD.out HWB.out.1 HWB.out.2 hm1 (Upd.undrew hu1) hpm hmp); clear hm1 hu1))
  all_goals
    obtain ⟨c2, q0, q1, q2⟩ := Q2.out.cells
    have c4 := Q2.out.c4
    have c4a : ∀ o, (w1.alloc o).cell? ⟨p, 4, none⟩ = some d.pend := fun o => cell_al c4 o
    go_wp2_with fail
    go_region_law (refine step_append_lies _ rfl (.tmp 14) (.tmp 16) 71 rfl 0 135 i0 (.agg #[.string ⟨#[]⟩, .string ⟨#[]⟩, .pointer none]) 3 40 Tryz.underlying71 hi hz0 hz1 hz2 rfl (by decide) d.pend d.pn xs rfl (Q2.out.pend.drew.alloc _) _ 1 1 [.string gone, .string nm, .pointer none] rfl rfl (cells_tripD _ _ _ _ _) (one_chg _ _ _) (by decide) (by unfold maxLen; omega) (by omega) (by simp) _ rfl ?_; intro gg cp w2 hown hg hat hlt; obtain ⟨hc1, hf1⟩ := Q2.out.after hg hpp)
    all_goals
      have HC := Lib.hid (changed_of HD.out HBX.out HWB.out.1 Q2.out.map HR.out Q2.out.upd (bl_alloc (bl_drew (Below.refl _ w1)) _) hg hown hat HFs.out HAP.out)
      clear hown hg hat hlt
      go_wp2
      exact bodyPost_end (v := .tuple #[]) (by simp [results, Tryz.results57, go_sem]) rfl ⟨rfl, HC.out⟩
end Go.Proofs.YtbhfbdcmamodcaaGreatDoor
namespace Go.Proofs.YtbhfbdcmamodcaaGreatDoor
open Go.RowKit Go.Maps
abbrev View := List (ByteArray × List UInt8)
def DiskS.view (d : DiskS) : View := d.fs.map fun f => (f.name, f.text)
def Disk (w : World) (p : Nat) (F : Foot) (v : View) (q : Nat) : Prop := ∃ d, DiskAt w p d ∧ F = (fun k => k ∈ d.own p) ∧ v = d.view ∧ d.pn ≤ q
theorem Disk.lt {w : World} {p q : Nat} {F : Foot} {v : View} (h : Disk w p F v q) : ∀ k, F k → k < w.heap.size := by
  obtain ⟨d, h1, rfl, _⟩ := h
  exact h1.lt
theorem Disk.stays {w x : World} {p q : Nat} {F : Foot} {v : View} (h : Disk w p F v q) (hs : Stays F w x) : Disk x p F v q := by
  obtain ⟨d, h1, rfl, h2⟩ := h
  exact ⟨d, h1.stays hs, rfl, h2⟩
theorem Disk.below {w x : World} {p q : Nat} {F : Foot} {v : View} (h : Disk w p F v q) (hb : Below w.heap.size w x) : Disk x p F v q := h.stays (Stays.of hb h.lt)
theorem Disk.mono {w : World} {p q q' : Nat} {F : Foot} {v : View} (h : Disk w p F v q) (hq : q ≤ q') : Disk w p F v q' := by
  obtain ⟨d, h1, h2, h3, h4⟩ := h
  exact ⟨d, h1, h2, h3, Nat.le_trans h4 hq⟩
def offV (s : ByteArray) (v : View) : View := v.filter fun x => decide (x.1 ≠ s)
theorem off_view (s : ByteArray) (fs : List FileE) : (offF s fs).map (fun f => (f.name, f.text)) = offV s (fs.map fun f => (f.name, f.text)) := by
  unfold offF offV
  rw [List.filter_map]
  rfl
theorem offV_none {s : ByteArray} {v : View} (h : s ∉ v.map Prod.fst) : offV s v = v := by
  unfold offV
  rw [List.filter_eq_self]
  intro x hx
  exact decide_eq_true (fun e => h (List.mem_map.2 ⟨x, hx, e⟩))
theorem view_names (d : DiskS) : d.view.map Prod.fst = d.fs.map (·.name) := by simp [DiskS.view]
theorem changed_disk {p : Nat} {d : DiskS} {fs : List FileE} {w0 w w' : World} (hd : DiskAt w0 p d) (hb : Below w0.heap.size w0 w) (h : Changed p d fs w w') (hfs : ∀ k ∈ fs.flatMap FileE.own, k ∈ d.own p ∨ w0.heap.size ≤ k) :
    ∃ d', DiskAt w' p d' ∧ d'.fs = fs ∧ d'.pn = d.pn + 1 ∧ Grew (fun k => k ∈ d.own p) (fun k => k ∈ d'.own p) w0 w' := by
  obtain ⟨pend, h1, h2, h3, _⟩ := h
  refine ⟨_, h1, rfl, rfl, ⟨(Upd.of hb).trans h2 (fun i e => .inl ?_), fun k hk => ?_, h1.lt⟩⟩
  · rcases e with rfl | rfl | e
    · exact own_p
    · exact own_m
    · exact own_pend e
  · unfold DiskS.own at hk
    rcases List.mem_cons.1 hk with rfl | hk
    · exact .inl own_p
    rcases List.mem_cons.1 hk with rfl | hk
    · exact .inl own_m
    rcases List.mem_append.1 hk with hk | hk
    · rcases h3 with e | ⟨g, e, hg⟩
      · exact .inl (own_pend (by rw [← e]; simpa using hk))
      · simp only [e] at hk
        simp at hk
        subst hk
        exact .inr (Nat.le_trans hb.size hg)
    · exact hfs k hk
theorem DiskAt.count {w : World} {p : Nat} {d : DiskS} (h : DiskAt w p d) (c : Int) : DiskAt (w.setCell ⟨p, 1, none⟩ (.int .i64 c)) p d := by
  obtain ⟨c1, c3, h1⟩ := h.box
  obtain ⟨D, h2, h3⟩ := h.map
  obtain ⟨xs, h4⟩ := h.pend
  obtain ⟨hp1, hp2⟩ := List.nodup_cons.1 h.apart
  have hne : ∀ k, k ∈ d.m :: (d.pend.ownBlock.toList ++ d.fs.flatMap FileE.own) → k ≠ p := fun k hk e => hp1 (e ▸ hk)
  have hst : ∀ k, k ≠ p → (w.setCell ⟨p, 1, none⟩ (.int .i64 c)).heap[k]? = w.heap[k]? := fun k hk => heap_setCell_other _ _ _ _ hk
  refine ⟨⟨c, c3, ?_⟩, ⟨D, map_stays h2 (hst _ (hne _ (by simp))), h3⟩, ⟨xs, row_stays h4 fun g hg => hst _ (hne _ (by simp [hg]))⟩, fun f hf => (h.files f hf).stays fun k hk => hst _ (hne _ ?_), h.apart⟩
  · rw [heap_setCell_same w p 1 _ _ _ h1]
    rfl
  · exact List.mem_cons_of_mem _ (List.mem_append_right _ (List.mem_flatMap.2 ⟨f, hf, hk⟩))
theorem Grew.set {F G : Foot} {w x : World} (h : Grew F G w x) (p o : Nat) (v : Value) (hp : G p) : Grew F G w (x.setCell ⟨p, o, none⟩ v) :=
  ⟨h.upd.set p o v (h.sub p hp), h.sub, fun k hk => by have := h.lt k hk; simp [World.setCell]; exact this⟩
theorem Grew.drew {F G : Foot} {w x : World} (h : Grew F G w x) : Grew F G w x.drew := ⟨h.upd.drew, h.sub, h.lt⟩
def MadeF (p : Nat) (d : DiskS) (name : ByteArray) (w w' : World) : Prop := ∃ d' b, DiskAt w' p d' ∧ d'.fs = offF name (offF name d.fs) ++ [⟨name, b, [], .slice none 0 0⟩] ∧ d'.pn = d.pn + 1 ∧ Grew (fun k => k ∈ d.own p) (fun k => k ∈ d'.own p) w w'
theorem MadeF.count {p : Nat} {d : DiskS} {name : ByteArray} {w w' : World} (h : MadeF p d name w w') (c : Int) : MadeF p d name w (w'.setCell ⟨p, 1, none⟩ (.int .i64 c)) := by
  obtain ⟨d', b, h1, h2, h3, h4⟩ := h
  exact ⟨d', b, h1.count c, h2, h3, h4.set p 1 _ own_p⟩
theorem made_of {p : Nat} {d : DiskS} {name : ByteArray} {w w' : World} {c : Int} (hd : DiskAt w p d) (h : Changed p d (offF name (offF name d.fs) ++ [⟨name, w.heap.size, [], .slice none 0 0⟩]) (w.alloc (.cells #[.int .i64 c, .slice none 0 0, .int .i64 0] 109)).drew w') : MadeF p d name w w' := by
  obtain ⟨d', h1, h2, h3, h4⟩ := changed_disk hd (bl_drew (bl_alloc (Below.refl _ w) _)) h (fun k hk => by
    obtain ⟨f, hf, hk⟩ := List.mem_flatMap.1 hk
    rcases List.mem_append.1 hf with hf | hf
    · exact .inl (own_file (off_mem.1 (off_mem.1 hf).1).1 hk)
    · rw [List.mem_singleton] at hf
      subst hf
      simp [FileE.own, Value.ownBlock] at hk
      exact .inr (by omega))
  exact ⟨d', w.heap.size, h1, h2, h3, h4⟩
theorem flat_sub {α β : Type} {f : α → List β} {l m : List α} (h : l.Sublist m) : (l.flatMap f).Sublist (m.flatMap f) := by
  induction h with
  | slnil => exact List.Sublist.refl _
  | cons a _ ih => rw [List.flatMap_cons]; exact ih.trans (List.sublist_append_right _ _)
  | cons_cons a _ ih => rw [List.flatMap_cons, List.flatMap_cons]; exact List.Sublist.append (List.Sublist.refl _) ih
theorem new_apart {w : World} {p : Nat} {d : DiskS} (hd : DiskAt w p d) (name : ByteArray) (t : List UInt8) : (p :: d.m :: (d.pend.ownBlock.toList ++ (offF name (offF name d.fs) ++ [(⟨name, w.heap.size, t, .slice none 0 0⟩ : FileE)]).flatMap FileE.own)).Nodup := by
  have h0 := hd.apart
  have hlt := hd.lt
  have hsub : (p :: d.m :: (d.pend.ownBlock.toList ++ (offF name (offF name d.fs)).flatMap FileE.own)).Sublist (d.own p) := by
    unfold DiskS.own
    refine List.Sublist.cons_cons _ (List.Sublist.cons_cons _ (List.Sublist.append (List.Sublist.refl _) ?_))
    exact flat_sub (by unfold offF; exact List.Sublist.trans List.filter_sublist List.filter_sublist)
  have e : (p :: d.m :: (d.pend.ownBlock.toList ++ (offF name (offF name d.fs) ++ [(⟨name, w.heap.size, t, .slice none 0 0⟩ : FileE)]).flatMap FileE.own)) = (p :: d.m :: (d.pend.ownBlock.toList ++ (offF name (offF name d.fs)).flatMap FileE.own)) ++ [w.heap.size] := by
    simp [FileE.own, Value.ownBlock]
  rw [e, List.nodup_append]
  refine ⟨h0.sublist hsub, by simp, fun a ha b hb e => ?_⟩
  have := hlt a (hsub.subset ha)
  simp at hb
  omega
theorem made_after {p A B : Nat} {d : DiskS} {name : ByteArray} {w w' : World} {c : Int} (hd : DiskAt w p d) (h : Changed p d (offF name (offF name d.fs) ++ [⟨name, w.heap.size, [], .slice none 0 0⟩]) (w.alloc (.cells #[.int .i64 c, .slice none 0 0, .int .i64 0] 109)).drew w')
    (nA : A ∉ d.own p) (nB : B ∉ d.own p) (hQ : w.cell? ⟨A, 0, none⟩ = some (.pointer (some ⟨p, 0, none⟩)) ∧ w.cell? ⟨B, 0, none⟩ = some (.string name) ∧ w.cell? ⟨p, 1, none⟩ = some (.int .i64 c)) :
    w'.cell? ⟨A, 0, none⟩ = some (.pointer (some ⟨p, 0, none⟩)) ∧ w'.cell? ⟨B, 0, none⟩ = some (.string name) ∧ w'.cell? ⟨p, 1, none⟩ = some (.int .i64 c) ∧ w'.frozen? ⟨p, 1, none⟩ = false ∧ MadeF p d name w w' := by
  have h0 := made_of hd h
  obtain ⟨d', b, k1, k2, k3, k4⟩ := h0
  obtain ⟨_, _, _, _, h4⟩ := h
  have hst : ∀ X v, w.cell? ⟨X, 0, none⟩ = some v → X ∉ d.own p → w'.cell? ⟨X, 0, none⟩ = some v := fun X v hX nX => by
    rw [World.cell?_of_block (k4.upd.block X (World.block_lt_of_cell? w _ hX) nX)]
    exact hX
  obtain ⟨_, _, hb⟩ := k1.box
  exact ⟨hst A _ hQ.1 nA, hst B _ hQ.2.1 nB, h4 _ (cell_al hQ.2.2 _), frozen_of_row _ _ _ _ _ hb, ⟨d', b, k1, k2, k3, k4⟩⟩
set_option maxHeartbeats 4000000 in
set_option maxRecDepth 100000 in
theorem sCreate1 (p A B : Nat) (d : DiskS) (name : ByteArray) (w : World) (hd : DiskAt w p d) (hn : name.size ≤ maxLen) (hpn : d.pn ≤ 1000000) (hl : d.fs.length ≤ 1000000)
    (hA : w.cell? ⟨A, 0, none⟩ = some (.pointer (some ⟨p, 0, none⟩))) (hB : w.cell? ⟨B, 0, none⟩ = some (.string name)) (nA : A ∉ d.own p) (nB : B ∉ d.own p) :
    Calls Tryz.prog 56 #[.pointer (some ⟨A, 0, none⟩), .pointer (some ⟨B, 0, none⟩)] w fun e w' => e = .returned (.tuple #[]) ∧ MadeF p d name w w' := by
  obtain ⟨c1, c3, hbox⟩ := hd.box
  have hc1 : w.cell? ⟨p, 1, none⟩ = some (.int .i64 c1) := by rw [cell_of_row _ _ _ _ _ _ hbox]; rfl
  have HC := Lib.hid (sChange p d name ⟨name, w.heap.size, [], .slice none 0 0⟩ (w.alloc (.cells #[.int .i64 c1, .slice none 0 0, .int .i64 0] 109)).drew (hd.below (bl_drew (bl_alloc (Below.refl _ w) _))) hn hn hpn hl
    ⟨⟨c1, 0, heap_alloc_new w _⟩, World.ownsRow_nil _ _ _ _⟩ (new_apart hd name []))
  have HD := Lib.hid hd
  have Q0 := Lib.hid (show w.cell? ⟨A, 0, none⟩ = some (.pointer (some ⟨p, 0, none⟩)) ∧ w.cell? ⟨B, 0, none⟩ = some (.string name) ∧ w.cell? ⟨p, 1, none⟩ = some (.int .i64 c1) from ⟨hA, hB, hc1⟩)
  clear hd hbox hA hB hc1
  go_enter Tryz.func56, Tryz.ntmps56
  go_wp2_with fail
  go_region_held3 (fun w' => w'.cell? ⟨A, 0, none⟩ = some (.pointer (some ⟨p, 0, none⟩)) ∧ w'.cell? ⟨B, 0, none⟩ = some (.string name) ∧ w'.cell? ⟨p, 1, none⟩ = some (.int .i64 c1))
    (first | exact ⟨Q1.out.1, Q1.out.2.1, Q1.out.2.2.1⟩ | exact Q0.out | exact ⟨cell_al Q0.out.1 _, cell_al Q0.out.2.1 _, cell_al Q0.out.2.2 _⟩)
    (first
      | (go_at_call 57; (with_reducible refine HC.out.mono ?_); rintro e w1 ⟨rfl, hm1⟩; have Q1 := Lib.hid (made_after HD.out hm1 nA nB Q0.out); clear hm1))
  all_goals
    obtain ⟨a1, a2, a3, a4, a5⟩ := Q1.out
    have HM := Lib.hid (fun c => a5.count c)
    clear a5
    go_wp2
    exact bodyPost_end (v := .tuple #[]) (by simp [results, Tryz.results56, go_sem]) rfl ⟨rfl, HM.out _⟩
end Go.Proofs.YtbhfbdcmamodcaaGreatDoor
namespace Go.Proofs.YtbhfbdcmamodcaaGreatDoor
open Go.RowKit Go.Maps
theorem dFindNone {w : World} {p : Nat} {d : DiskS} (hd : DiskAt w p d) (s : ByteArray) (hs : s.size ≤ maxLen) (hn : s ∉ d.fs.map (·.name)) :
    Calls Tryz.prog 45 #[.pointer (some ⟨p, 0, none⟩), .string s] w fun e w' => e = .returned (.tuple #[.pointer none, .int .i64 6]) ∧ w' = w := by
  obtain ⟨c1, c3, hb⟩ := hd.box
  obtain ⟨D, hD, hR⟩ := hd.map
  refine (sFind p d.m d.fs.length D s w (by rw [cell_of_row _ _ _ _ _ _ hb]; rfl) (by rw [cell_of_row _ _ _ _ _ _ hb]; rfl) hD hs).mono fun e w' h => ?_
  obtain ⟨rfl, h | h⟩ := h
  · obtain ⟨f, hf, he⟩ := (hR.has s).1 h.1
    exact absurd (List.mem_map.2 ⟨f, hf, he⟩) hn
  · exact ⟨h.2, rfl⟩
theorem dFind {w : World} {p : Nat} {d : DiskS} (hd : DiskAt w p d) (s : ByteArray) (hs : s.size ≤ maxLen) {f : FileE} (hf : f ∈ d.fs) (hn : f.name = s) :
    Calls Tryz.prog 45 #[.pointer (some ⟨p, 0, none⟩), .string s] w fun e w' => e = .returned (.tuple #[.pointer (some ⟨f.blk, 0, none⟩), .int .i64 0]) ∧ w' = w := by
  subst hn
  obtain ⟨c1, c3, hb⟩ := hd.box
  obtain ⟨D, hD, hR⟩ := hd.map
  refine (sFind p d.m d.fs.length D f.name w (by rw [cell_of_row _ _ _ _ _ _ hb]; rfl) (by rw [cell_of_row _ _ _ _ _ _ hb]; rfl) hD hs).mono fun e w' h => ?_
  obtain ⟨rfl, h | h⟩ := h
  · obtain ⟨_, v, ps, rfl, hv⟩ := h
    rw [hR.at_ f hf] at hv
    rw [fileR_at hv]
    exact ⟨rfl, rfl⟩
  · have := (hR.has f.name).2 ⟨f, hf, rfl⟩
    rw [h.1] at this
    cases this
theorem goodName_le {s : ByteArray} (h : GoodName s) : s.size ≤ maxLen := by
  have := h.2.1
  unfold maxLen; omega
set_option maxHeartbeats 4000000 in
set_option maxRecDepth 100000 in
theorem dCreate (p q : Nat) (F : Foot) (v : View) (s : ByteArray) (w : World) (h : Disk w p F v q) (hg : GoodName s) (hn : s ∉ v.map Prod.fst) (hq : q ≤ 1000000) (hl : v.length < 64) :
    Calls Tryz.prog 28 #[.pointer (some ⟨p, 0, none⟩), .string s] w fun e w' => e = .returned (.int .i64 0) ∧ ∃ F', Disk w' p F' (v ++ [(s, [])]) (q + 1) ∧ Grew F F' w w' := by
  obtain ⟨d, hd, rfl, rfl, hpn⟩ := h
  rw [view_names] at hn
  have hfl : d.fs.length < 64 := by simpa [DiskS.view] using hl
  obtain ⟨W1, hW1⟩ : ∃ W1, (w.alloc (.cells #[.pointer (some ⟨p, 0, none⟩)] 25)).alloc (.cells #[.string s] 9) = W1 := ⟨_, rfl⟩
  have hb1 : Below w.heap.size w W1 := by rw [← hW1]; exact bl_alloc (bl_alloc (Below.refl _ w) _) _
  have cA : W1.cell? ⟨w.heap.size, 0, none⟩ = some (.pointer (some ⟨p, 0, none⟩)) := by rw [← hW1]; exact cell_al (by rw [World.cell?_alloc_new]; rfl) _
  have cB : W1.cell? ⟨w.heap.size + 1, 0, none⟩ = some (.string s) := by rw [← hW1]; exact cells_new (w.alloc _) [.string s] _ (by simp) 0 _ rfl
  have hd1 := hd.below hb1
  have HF := Lib.hid (dFindNone hd1 s (goodName_le hg) hn)
  have HN := Lib.hid (sNamed s hg)
  have HW1 := Lib.hid hW1
  have HB1 := Lib.hid hb1
  have HD := Lib.hid hd
  have HD1 := Lib.hid hd1
  obtain ⟨c1, c3, hbx⟩ := hd1.box
  obtain ⟨D, hm, hR⟩ := hd1.map
  have hes := hR.size
  have hd64 : decide ((d.fs.length : Int) ≥ 64) = false := by simp; omega
  have c5 : W1.cell? ⟨p, 5, none⟩ = some (.int .i64 0) := by rw [cell_of_row _ _ _ _ _ _ hbx]; rfl
  have c2 : W1.cell? ⟨p, 2, none⟩ = some (.map (some d.m)) := by rw [cell_of_row _ _ _ _ _ _ hbx]; rfl
  have HQ := Lib.hid (show W1.cell? ⟨w.heap.size, 0, none⟩ = some (.pointer (some ⟨p, 0, none⟩)) ∧ W1.cell? ⟨w.heap.size + 1, 0, none⟩ = some (.string s) ∧ W1.cell? ⟨p, 2, none⟩ = some (.map (some d.m)) ∧ W1.cell? ⟨p, 5, none⟩ = some (.int .i64 0) ∧ W1.ownsMap Tryz.prog 9 fileR d.m d.fs.length D from ⟨cA, cB, c2, c5, hm⟩)
  have HNM := Lib.hid hn
  have HSG := Lib.hid hg
  have hpz : p < w.heap.size := hd.lt _ own_p
  have nA : w.heap.size ∉ d.own p := fun hk => Nat.lt_irrefl _ (hd.lt _ hk)
  have nB : w.heap.size + 1 ∉ d.own p := fun hk => by have := hd.lt _ hk; omega
  clear hW1 hb1 hd hd1 hg hn hbx hm hR c2 c5
  go_enter Tryz.func28, Tryz.ntmps28
  go_wp2_with fail
  rw [HW1.out]
  go_wp2_with fail
  (with_reducible refine HF.out.mono ?_)
  rintro e w2 ⟨rfl, rfl⟩
  go_wp2_with fail
  (with_reducible refine (HN.out _).mono ?_)
  rintro e w3 ⟨rfl, hb⟩
  have HB2 := Lib.hid hb
  have a2 := bl_cell hb HQ.out.2.2.1
  have a0 := bl_cell hb HQ.out.1
  have a1 := bl_cell hb HQ.out.2.1
  have a5 := bl_cell hb HQ.out.2.2.2.1
  have hlen := (map_stays HQ.out.2.2.2.2 (hb.block d.m HQ.out.2.2.2.2.lt)).len Tryz.underlying70 3
  rw [hes] at hlen
  clear hb cA cB
  have HC1 := Lib.hid (sCreate1 p w.heap.size (w.heap.size + 1) d s w3 (HD.out.below (bl_trans HB1.out HB2.out)) (goodName_le HSG.out) (by omega) (by omega) a0 a1 nA nB)
  go_wp2_with (go_at_call 55; (with_reducible refine (sStepCreate p _ _ a5 _ HC1.out).mono ?_); rintro e w4 ⟨rfl, hr⟩; have HR4 := Lib.hid hr; clear hr)
  go_ret
  obtain ⟨d', b, k1, k2, k3, k4⟩ := HR4.out
  have hoff : offF s (offF s d.fs) = d.fs := by
    have h1 : offF s d.fs = d.fs := by
      unfold offF
      rw [List.filter_eq_self]
      exact fun x hx => decide_eq_true (fun e => HNM.out (List.mem_map.2 ⟨x, hx, e⟩))
    rw [h1, h1]
  exact ⟨rfl, _, ⟨d', k1, rfl, by unfold DiskS.view; rw [k2, hoff]; simp, by omega⟩, Grew.after (bl_trans HB1.out HB2.out) k4⟩
end Go.Proofs.YtbhfbdcmamodcaaGreatDoor
namespace Go.Proofs.YtbhfbdcmamodcaaGreatDoor
open Go.RowKit Go.Maps
theorem keyOf_name {P : Program} {k : TypeId} (hk : P.underlying k = some .string) {key : Value} {kl : Lit} (h : keyOf P k key = some kl) : ∃ s : ByteArray, key = .string s ∧ kl = keyF s ∧ s.size ≤ maxLen := by
  cases key <;> simp [keyOf, hk, mapKey] at h
  obtain ⟨h1, rfl⟩ := h
  exact ⟨_, rfl, rfl, h1⟩
theorem fileR_ptr {v : Value} {y : DataW Unit × List MemPlace} (h : fileR v = some y) : ∃ c, v = .pointer c := by
  unfold fileR at h
  split at h
  · exact ⟨_, rfl⟩
  · exact ⟨_, rfl⟩
  · cases h
theorem ranged_file {D : DataW Unit} {fs : List FileE} (hR : Reads D fs) {c : Option Addr} {s : ByteArray} {y : DataW Unit × List MemPlace} (hv : fileR (.pointer c) = some y) (hat : ∀ zd, D.atKey (keyF s) zd = y.1) : ∃ f ∈ fs, f.name = s ∧ c = some ⟨f.blk, 0, none⟩ := by
  obtain ⟨f, hf, he⟩ := (hR.has s).1 (Maps.has_true_of_atKey hat)
  subst he
  refine ⟨f, hf, rfl, ?_⟩
  have h1 := hat .nil
  rw [hR.at_ f hf] at h1
  have h2 : fileR (.pointer c) = some (.lit (.int .i64 (f.blk : Nat)), y.2) := by rw [hv, h1]
  have := fileR_at h2
  injection this
theorem grown_below {w x : World} {r : Nat} {B : Nat} (h : w.grownBy x (some r)) (hr : B ≤ r) (hB : B ≤ w.heap.size) : Below B w x := ⟨h.os, h.tape, h.output, h.size, fun i hi => h.block i (by omega) (fun e => by cases e; omega)⟩
theorem grown_belowN {w x : World} (h : w.grownBy x none) : Below w.heap.size w x := ⟨h.os, h.tape, h.output, h.size, fun i hi => h.block i hi (by simp)⟩
set_option maxHeartbeats 4000000 in
set_option maxRecDepth 100000 in
theorem dUsed {w : World} {p : Nat} {d : DiskS} (hd : DiskAt w p d) (M : Nat) (hM : ∀ f ∈ d.fs, f.text.length ≤ M) (hl : d.fs.length ≤ 1000) (hMm : M ≤ 1073741824) :
    Calls Tryz.prog 139 #[.pointer (some ⟨p, 0, none⟩)] w fun e w' => (∃ n : Nat, e = .returned (.int .i64 n) ∧ n ≤ d.fs.length * M) ∧ Below w.heap.size w w' := by
  obtain ⟨c1, c3, hb⟩ := hd.box
  obtain ⟨D, hD, hR⟩ := hd.map
  have c2 : w.cell? ⟨p, 2, none⟩ = some (.map (some d.m)) := by rw [cell_of_row _ _ _ _ _ _ hb]; rfl
  obtain ⟨N, hN⟩ : ∃ N, d.fs.length = N := ⟨_, rfl⟩
  have hsz := hR.size
  rw [hN] at hD hl hsz
  have HN := Lib.hid hN
  have HF := Lib.hid (fun f hf W (hW : Below w.heap.size w W) => (hd.files f hf).stays (x := W) fun k hk => hW.block k ((hd.files f hf).lt k hk))
  have HMf := Lib.hid hM
  have HR := Lib.hid hR
  have HD := Lib.hid hD
  have hml := hD.lt
  have hNM : N * M ≤ 1000 * 1073741824 := Nat.mul_le_mul hl hMm
  clear hd hb hD hR hM hN
  go_enter Tryz.func139, Tryz.ntmps139
  go_wp2_with (at_range; refine wpList_range_own _ rfl _ 70 rfl 9 105 (string_keyed Tryz.underlying9) Tryz.underlying70 fileR d.m N D rfl HD.out ?_; intro w0 hrg0 hg0 hs0; have HRG := Lib.hid hrg0; have HB0 := Lib.hid (grown_belowN hg0); clear hrg0 hg0)
  go_frame
  go_loopw [3] (fun nv wv => ∃ (left : Lit → Bool) (cnt n : Nat), nv = .int .i64 n ∧ wv.ranges Tryz.prog 9 fileR d.m w.heap.size N D left cnt ∧ n + cnt * M ≤ N * M ∧ Below w.heap.size w wv) (fun _ wv => wv.rangeLeft d.m w.heap.size)
  case atStart => exact ⟨_, _, 0, rfl, HRG.out, by rw [hsz]; omega, HB0.out⟩
  case round =>
    obtain ⟨wv, rfl⟩ : ∃ wv : World, wv = wr := ⟨_, rfl⟩
    obtain ⟨left, cnt, n, rfl, hrg, hle, hbv⟩ := hrel
    have HRV := Lib.hid hrg; have HBV := Lib.hid hbv
    have HLE := Lib.hid hle
    clear hrg hbv hle
    go_wp2_with (at_next; refine wpList_next_ranges (α := ByteArray) (β := Option Addr) _ rfl _ rfl 9 (string_keyed Tryz.underlying9) fileR Value.string Value.pointer (fun key kl hk => by obtain ⟨s, e, _⟩ := keyOf_name Tryz.underlying9 hk; exact ⟨s, e⟩) (fun v y hv => fileR_ptr hv) d.m w.heap.size N D _ _ rfl HRV.out ?_ ?_)
    · intro hc0 hl0
      clear hl0
      go_wp2
      go_ret
      exact ⟨⟨n, rfl, by have := HLE.out; rw [HN.out]; omega⟩, HBV.out⟩
    · intro x c kl y1 y2 w4 cnt1 hkey hlx hRv hat hrg1 hlt hg1 hs1 hen
      obtain ⟨s, hse, hkl, hxz⟩ := keyOf_name Tryz.underlying9 hkey
      obtain rfl : x = s := by simpa using hse
      subst hkl
      obtain ⟨f, hf, _, rfl⟩ := ranged_file (y := (y1, y2)) HR.out hRv hat
      have hb4 : Below w.heap.size w w4 := HBV.out.trans (grown_below hg1 (Nat.le_refl _) HBV.out.size)
      obtain ⟨num, safe, hfc⟩ := (HF.out f hf w4 hb4).cell
      obtain ⟨ga, gc, hrow⟩ := slice_of_own (HF.out f hf w4 hb4).own
      have hc1 : w4.cell? ⟨f.blk, 1, none⟩ = some (.slice ga f.text.length gc) := by rw [cell_of_row _ _ _ _ _ _ hfc, ← hrow]; rfl
      have hfm := HMf.out f hf
      have HRG4 := Lib.hid hrg1
      have HB4 := Lib.hid hb4
      have hbig : n + f.text.length ≤ N * M := by
        have := HLE.out
        have : cnt1 * M + M ≤ cnt * M := by rw [← Nat.succ_mul]; exact Nat.mul_le_mul_right _ hlt
        omega
      have hnext : n + f.text.length + cnt1 * M ≤ N * M := by
        have := HLE.out
        have : cnt1 * M + M ≤ cnt * M := by rw [← Nat.succ_mul]; exact Nat.mul_le_mul_right _ hlt
        omega
      have HNX := Lib.hid hnext
      have hwr : IntKind.i64.wrap ((n : Int) + (f.text.length : Int)) = ((n + f.text.length : Nat) : Int) := by rw [IntWalk.i64_in _ (by omega)]; omega
      clear hkey hlx hRv hat hrg1 hg1 hse hfc hrow hb4 hnext
      go_wp2
      go_roundw
      case rel => exact ⟨_, _, n + f.text.length, by go_num, HRG4.out, HNX.out, HB4.out⟩
      case measure => rw [HRG4.out.left_eq, HRV.out.left_eq]; exact hlt
end Go.Proofs.YtbhfbdcmamodcaaGreatDoor
namespace Go.Proofs.YtbhfbdcmamodcaaGreatDoor
open Go.RowKit Go.Maps
theorem own_parts {p : Nat} {d : DiskS} {pre post : List FileE} {f : FileE} (h : d.fs = pre ++ f :: post) : d.own p = (p :: d.m :: (d.pend.ownBlock.toList ++ (pre.flatMap FileE.own ++ [f.blk]))) ++ (f.row.ownBlock.toList ++ post.flatMap FileE.own) := by
  unfold DiskS.own
  rw [h]
  simp [FileE.own]
theorem names_parts {fs pre post : List FileE} {f : FileE} {D : DataW Unit} (h : Reads D fs) (e : fs = pre ++ f :: post) (t : List UInt8) (r : Value) : Reads D (pre ++ ⟨f.name, f.blk, t, r⟩ :: post) := by
  subst e
  have hm : (pre ++ (⟨f.name, f.blk, t, r⟩ : FileE) :: post).map (·.name) = (pre ++ f :: post).map (·.name) := by simp
  refine ⟨h.tidy, fun s => ?_, fun g hg z => ?_, by rw [h.size]; simp, by rw [hm]; exact h.nodup⟩
  · have : ∀ l : List FileE, (∃ g ∈ l, g.name = s) ↔ s ∈ l.map (·.name) := fun l => by simp
    rw [h.has, this, this, hm]
  · rcases List.mem_append.1 hg with hg | hg
    · exact h.at_ g (by simp [hg]) z
    · rcases List.mem_cons.1 hg with rfl | hg
      · exact h.at_ f (by simp) z
      · exact h.at_ g (by simp [hg]) z
theorem wrote_of {w x w1 : World} {p : Nat} {d : DiskS} {pre post : List FileE} {f : FileE} {row : Value} {text : List UInt8} (hd : DiskAt w p d) (h : d.fs = pre ++ f :: post) (hx : Below w.heap.size w x) (hg : x.grownBy w1 f.row.ownBlock)
    (hown : w1.ownsRow 0 5 1 row text.length (bytesOf text)) (hat : row.ownBlock = f.row.ownBlock ∨ row.ownBlock = some x.heap.size) :
    DiskAt (w1.setCell ⟨f.blk, 1, none⟩ row) p ⟨d.m, d.pend, d.pn, pre ++ ⟨f.name, f.blk, text, row⟩ :: post⟩ ∧
    Grew (fun k => k ∈ d.own p) (fun k => k ∈ (⟨d.m, d.pend, d.pn, pre ++ ⟨f.name, f.blk, text, row⟩ :: post⟩ : DiskS).own p) w (w1.setCell ⟨f.blk, 1, none⟩ row) := by
  obtain ⟨c1, c3, h1⟩ := hd.box
  obtain ⟨D, h2, h3⟩ := hd.map
  obtain ⟨xs, h4⟩ := hd.pend
  have hfm : f ∈ d.fs := by rw [h]; simp
  obtain ⟨num, safe, h5⟩ := (hd.files f hfm).cell
  have ha := hd.apart
  have hlt := hd.lt
  have hgz := hg.size
  have hxz := hx.size
  rw [own_parts h] at ha
  obtain ⟨hX, hY, hXY⟩ := List.nodup_append.1 ha
  -- the blocks that stay
  have hst : ∀ k, k ∈ d.own p → k ≠ f.blk → f.row.ownBlock ≠ some k → (w1.setCell ⟨f.blk, 1, none⟩ row).heap[k]? = w.heap[k]? := fun k hk n1 n2 => by
    have := hlt k hk
    rw [heap_setCell_other _ _ _ _ n1, hg.block k (by omega) (Ne.symm n2), hx.block k this]
  have hbr : f.row.ownBlock ≠ some f.blk := fun e => hXY f.blk (by simp) f.blk (by simp [e]) rfl
  have hmem : ∀ k, k ∈ p :: d.m :: (d.pend.ownBlock.toList ++ pre.flatMap FileE.own) → k ∈ d.own p ∧ k ≠ f.blk ∧ f.row.ownBlock ≠ some k := fun k hk => by
    refine ⟨?_, ?_, fun e => ?_⟩
    · rw [own_parts h]; simp only [List.mem_cons, List.mem_append] at hk ⊢; rcases hk with hk | hk | hk | hk <;> simp [hk]
    · have e : p :: d.m :: (d.pend.ownBlock.toList ++ (pre.flatMap FileE.own ++ [f.blk])) = (p :: d.m :: (d.pend.ownBlock.toList ++ pre.flatMap FileE.own)) ++ [f.blk] := by simp
      rw [e] at hX
      exact fun e2 => (List.nodup_append.1 hX).2.2 k hk f.blk (by simp) e2
    · exact hXY k (by simp only [List.mem_cons, List.mem_append] at hk ⊢; rcases hk with hk | hk | hk | hk <;> simp [hk]) k (by simp [e]) rfl
  have hmem2 : ∀ k, k ∈ post.flatMap FileE.own → k ∈ d.own p ∧ k ≠ f.blk ∧ f.row.ownBlock ≠ some k := fun k hk => by
    refine ⟨by rw [own_parts h]; simp [hk], fun e => hXY f.blk (by simp) k (by simp [hk]) e.symm, fun e => ?_⟩
    exact (List.nodup_append.1 hY).2.2 k (by simp [e]) k hk rfl
  have hstA : ∀ k, k ∈ p :: d.m :: (d.pend.ownBlock.toList ++ pre.flatMap FileE.own) → (w1.setCell ⟨f.blk, 1, none⟩ row).heap[k]? = w.heap[k]? := fun k hk => hst k (hmem k hk).1 (hmem k hk).2.1 (hmem k hk).2.2
  have hfb : w1.heap[f.blk]? = w.heap[f.blk]? := by
    have := hlt f.blk (own_file hfm (by simp [FileE.own]))
    rw [hg.block _ (by omega) (Ne.symm hbr), hx.block _ this]
  have hrb : row.ownBlock ≠ some f.blk := fun e => by
    rcases hat with e2 | e2
    · exact hbr (e2.symm.trans e)
    · have := hlt f.blk (own_file hfm (by simp [FileE.own]))
      rw [e2] at e
      injection e with e
      omega
  have hD : DiskAt (w1.setCell ⟨f.blk, 1, none⟩ row) p ⟨d.m, d.pend, d.pn, pre ++ ⟨f.name, f.blk, text, row⟩ :: post⟩ := by
    refine ⟨⟨c1, c3, (hstA p (by simp)).trans h1⟩, ⟨D, ?_, names_parts h3 h text row⟩, ⟨xs, row_stays h4 fun g hg => hstA g (by simp [hg])⟩, fun g hgm => ?_, ?_⟩
    · have := map_stays h2 (hstA d.m (by simp))
      rw [show (pre ++ (⟨f.name, f.blk, text, row⟩ : FileE) :: post).length = d.fs.length from by rw [h]; simp]
      exact this
    · rcases List.mem_append.1 hgm with hgm | hgm
      · exact (hd.files g (by rw [h]; simp [hgm])).stays fun k hk => hstA k (by simp only [List.mem_cons, List.mem_append]; exact .inr (.inr (.inr (List.mem_flatMap.2 ⟨g, hgm, hk⟩))))
      · rcases List.mem_cons.1 hgm with rfl | hgm
        · refine ⟨⟨num, safe, ?_⟩, row_stays hown fun g hgo => heap_setCell_other _ _ _ _ (fun e => hrb (by rw [hgo, e]))⟩
          show (w1.setCell ⟨f.blk, 1, none⟩ row).heap[f.blk]? = _
          rw [heap_setCell_same w1 f.blk 1 _ _ _ (hfb.trans h5)]
          rfl
        · have hk2 : ∀ k ∈ g.own, k ∈ post.flatMap FileE.own := fun k hk => List.mem_flatMap.2 ⟨g, hgm, hk⟩
          exact (hd.files g (by rw [h]; simp [hgm])).stays fun k hk => hst k (hmem2 k (hk2 k hk)).1 (hmem2 k (hk2 k hk)).2.1 (hmem2 k (hk2 k hk)).2.2
    · rw [own_parts (d := ⟨d.m, d.pend, d.pn, pre ++ ⟨f.name, f.blk, text, row⟩ :: post⟩) rfl]
      show ((p :: d.m :: (d.pend.ownBlock.toList ++ (pre.flatMap FileE.own ++ [f.blk]))) ++ (row.ownBlock.toList ++ post.flatMap FileE.own)).Nodup
      rcases hat with e | e
      · rw [e]; exact ha
      · rw [e]
        have hn : ∀ k ∈ d.own p, k ≠ x.heap.size := fun k hk e => by have := hlt k hk; omega
        have hp2 : post.flatMap FileE.own = post.flatMap FileE.own := rfl
        rw [List.nodup_append]
        refine ⟨hX, ?_, fun a ha2 b hb e2 => ?_⟩
        · show (x.heap.size :: post.flatMap FileE.own).Nodup
          exact List.nodup_cons.2 ⟨fun hk => hn _ (hmem2 _ hk).1 rfl, (List.nodup_append.1 hY).2.1⟩
        · have hao : a ∈ d.own p := by rw [own_parts h]; exact List.mem_append_left _ ha2
          rcases List.mem_append.1 hb with hb | hb
          · simp at hb
            exact hn a hao (by omega)
          · exact hXY a ha2 b (List.mem_append_right _ hb) e2
  refine ⟨hD, ⟨?_, fun k hk => ?_, hD.lt⟩⟩
  · have a1 : Upd (fun k => k ∈ d.own p) w w1 := (Upd.of hx).grown hg (fun g e => .inl (own_file hfm (by simp [FileE.own, e])))
    exact a1.set f.blk 1 _ (.inl (own_file hfm (by simp [FileE.own])))
  · rw [own_parts (d := ⟨d.m, d.pend, d.pn, pre ++ ⟨f.name, f.blk, text, row⟩ :: post⟩) rfl] at hk
    rcases List.mem_append.1 hk with hk | hk
    · left; rw [own_parts h]; exact List.mem_append_left _ hk
    · rcases List.mem_append.1 hk with hk | hk
      · rcases hat with e | e
        · left; rw [own_parts h]; exact List.mem_append_right _ (List.mem_append_left _ (by rw [← e]; exact hk))
        · right
          change k ∈ row.ownBlock.toList at hk
          rw [e] at hk
          simp at hk
          omega
      · exact .inl (hmem2 k hk).1
theorem DiskAt.synced {w : World} {p : Nat} {d : DiskS} (h : DiskAt w p d) {f : FileE} (hf : f ∈ d.fs) (c : Int) : DiskAt (w.setCell ⟨f.blk, 2, none⟩ (.int .i64 c)) p d := by
  obtain ⟨c1, c3, h1⟩ := h.box
  obtain ⟨D, h2, h3⟩ := h.map
  obtain ⟨xs, h4⟩ := h.pend
  obtain ⟨pre, post, hp⟩ := List.append_of_mem hf
  have ha := h.apart
  rw [own_parts hp] at ha
  obtain ⟨hX, hY, hXY⟩ := List.nodup_append.1 ha
  have hst : ∀ k, k ≠ f.blk → (w.setCell ⟨f.blk, 2, none⟩ (.int .i64 c)).heap[k]? = w.heap[k]? := fun k n1 => heap_setCell_other _ _ _ _ n1
  have hmem : ∀ k, k ∈ p :: d.m :: (d.pend.ownBlock.toList ++ pre.flatMap FileE.own) → k ≠ f.blk := fun k hk => by
    have e : p :: d.m :: (d.pend.ownBlock.toList ++ (pre.flatMap FileE.own ++ [f.blk])) = (p :: d.m :: (d.pend.ownBlock.toList ++ pre.flatMap FileE.own)) ++ [f.blk] := by simp
    rw [e] at hX
    exact fun e2 => (List.nodup_append.1 hX).2.2 k hk f.blk (by simp) e2
  have hbr : f.row.ownBlock ≠ some f.blk := fun e => hXY f.blk (by simp) f.blk (by simp [e]) rfl
  refine ⟨⟨c1, c3, (hst p (hmem p (by simp))).trans h1⟩, ⟨D, map_stays h2 (hst _ (hmem _ (by simp))), h3⟩, ⟨xs, row_stays h4 fun g hg => hst _ (hmem _ (by simp [hg]))⟩, fun g hg => ?_, h.apart⟩
  rw [hp] at hg
  rcases List.mem_append.1 hg with hg | hg
  · exact (h.files g (by rw [hp]; simp [hg])).stays fun k hk => hst k (hmem k (by simp only [List.mem_cons, List.mem_append]; exact .inr (.inr (.inr (List.mem_flatMap.2 ⟨g, hg, hk⟩)))))
  · rcases List.mem_cons.1 hg with rfl | hg
    · obtain ⟨num, safe, h5⟩ := (h.files g hf).cell
      refine ⟨⟨num, c, ?_⟩, row_stays (h.files g hf).own fun k hk => hst k (fun e => hbr (by rw [hk, e]))⟩
      rw [heap_setCell_same w g.blk 2 _ _ _ h5]
      rfl
    · exact (h.files g (by rw [hp]; simp [hg])).stays fun k hk => hst k (fun e => hXY f.blk (by simp) k (List.mem_append_right _ (List.mem_flatMap.2 ⟨g, hg, hk⟩)) e.symm)
theorem DiskAt.named {w : World} {p : Nat} {d : DiskS} (h : DiskAt w p d) (k : Nat) : DiskAt ((w.setCell ⟨p, 3, none⟩ (.map (some k))).setCell ⟨p, 4, none⟩ (.slice none 0 0)) p ⟨d.m, .slice none 0 0, 0, d.fs⟩ := by
  obtain ⟨c1, c3, h1⟩ := h.box
  obtain ⟨D, h2, h3⟩ := h.map
  obtain ⟨hp1, hp2⟩ := List.nodup_cons.1 h.apart
  obtain ⟨hp3, hp4⟩ := List.nodup_cons.1 hp2
  have hst : ∀ i, i ≠ p → ((w.setCell ⟨p, 3, none⟩ (.map (some k))).setCell ⟨p, 4, none⟩ (.slice none 0 0)).heap[i]? = w.heap[i]? := fun i hi => by
    rw [heap_setCell_other _ _ _ _ hi, heap_setCell_other _ _ _ _ hi]
  have hne : ∀ i, i ∈ d.m :: (d.pend.ownBlock.toList ++ d.fs.flatMap FileE.own) → i ≠ p := fun i hi e => hp1 (e ▸ hi)
  refine ⟨⟨c1, k, ?_⟩, ⟨D, map_stays h2 (hst _ (hne _ (by simp))), h3⟩, ⟨[], World.ownsRow_nil _ _ _ _⟩, fun f hf => (h.files f hf).stays fun i hi => hst i (hne i ?_), ?_⟩
  · rw [heap_setCell_same _ p 4 _ _ _ (heap_setCell_same w p 3 _ _ _ h1)]
    rfl
  · exact List.mem_cons_of_mem _ (List.mem_append_right _ (List.mem_flatMap.2 ⟨f, hf, hi⟩))
  · show (p :: d.m :: ([] ++ d.fs.flatMap FileE.own)).Nodup
    refine h.apart.sublist (List.Sublist.cons_cons _ (List.Sublist.cons_cons _ (List.Sublist.append (List.nil_sublist _) (List.Sublist.refl _))))
end Go.Proofs.YtbhfbdcmamodcaaGreatDoor
namespace Go.Proofs.YtbhfbdcmamodcaaGreatDoor
open Go.RowKit Go.Maps
theorem step_append_string {P : Program} {ops : Array Oper} {o : Oper} {a : Act} {w : World} {K : Act → World → Prop} {Q : Exit → Act → World → Prop} {E : Prop} (hgd : o.guard = none) (sl x : Operand) (t tx : TypeId)
    (ho : o.op = .call { callee := .builtin .append, args := #[sl, x], argTypes := #[t, tx] })
    (base : Nat) (e : TypeId) (i : TypeInfo) (z : Value) (ht : P.underlying t = some (.slice e)) (htx : P.underlying tx = some .string) (hi : P.info? e = some i) (hz : i.zero = some z)
    (hsize : i.size = 1) (hby : i.bytes = 1) (hzs : z.cells.size = 1)
    (v : Value) (n : Nat) (xs : List Value) (hs : a.eval sl = v) (hown : w.ownsRow base e 1 v n xs) (s : ByteArray) (hx : a.eval x = .string s)
    (hbytes : n + s.size ≤ 225000000000000) (hbase : base ≤ w.heap.size)
    (h : ∀ v' w', w'.ownsRow base e 1 v' (n + s.size) (xs ++ byteCells s) → w.grownBy w' v.ownBlock → (v'.ownBlock = v.ownBlock ∨ v'.ownBlock = some w.heap.size) → K (a.put o.dst v') w') :
    if Region.wanted o (yielded ops a.tmps) = true then Oper.wp P o a w K Q else E := by
  have hw : Region.wanted o (yielded ops a.tmps) = true := by simp [Region.wanted, hgd]
  rw [if_pos hw]
  exact wp_append_string_own w sl x t tx ho base e i z ht htx hi hz hsize hby hzs v n xs hs hown s hx hbytes hbase h
theorem byteCells_eq (s : ByteArray) : byteCells s = bytesOf s.data.toList := by
  unfold byteCells bytesOf
  rfl
theorem sizeL (s : ByteArray) : s.data.toList.length = s.size := Array.length_toList
def WroteF (p : Nat) (d : DiskS) (pre post : List FileE) (f : FileE) (s : ByteArray) (w w' : World) : Prop :=
  ∃ row, DiskAt w' p ⟨d.m, d.pend, d.pn, pre ++ ⟨f.name, f.blk, f.text ++ s.data.toList, row⟩ :: post⟩ ∧ Grew (fun k => k ∈ d.own p) (fun k => k ∈ (⟨d.m, d.pend, d.pn, pre ++ ⟨f.name, f.blk, f.text ++ s.data.toList, row⟩ :: post⟩ : DiskS).own p) w w'
theorem file_after {w x w1 : World} {p : Nat} {d : DiskS} {f : FileE} (hd : DiskAt w p d) (hf : f ∈ d.fs) (hx : Below w.heap.size w x) (hg : x.grownBy w1 f.row.ownBlock) : w1.cell? ⟨f.blk, 1, none⟩ = some f.row ∧ w1.frozen? ⟨f.blk, 1, none⟩ = false := by
  obtain ⟨pre, post, hp⟩ := List.append_of_mem hf
  have ha := hd.apart
  rw [own_parts hp] at ha
  obtain ⟨hX, hY, hXY⟩ := List.nodup_append.1 ha
  have hbr : f.row.ownBlock ≠ some f.blk := fun e => hXY f.blk (by simp) f.blk (by simp [e]) rfl
  obtain ⟨num, safe, h5⟩ := (hd.files f hf).cell
  have hl := hd.lt f.blk (own_file hf (by simp [FileE.own]))
  have hxz := hx.size
  have hb : w1.heap[f.blk]? = _ := ((hg.block _ (by omega) (Ne.symm hbr)).trans (hx.block _ hl)).trans h5
  exact ⟨by rw [cell_of_row _ _ _ _ _ _ hb]; rfl, frozen_of_row _ _ _ _ _ hb⟩
set_option maxHeartbeats 4000000 in
set_option maxRecDepth 100000 in
theorem sAppend1 (p A B : Nat) (d : DiskS) (pre post : List FileE) (f : FileE) (s : ByteArray) (w : World) (hd : DiskAt w p d) (h : d.fs = pre ++ f :: post) (hl : f.text.length + s.size ≤ 1099511627776)
    (hB : w.cell? ⟨B, 0, none⟩ = some (.pointer (some ⟨f.blk, 0, none⟩))) (hA : w.cell? ⟨A, 0, none⟩ = some (.string s)) (nB : B ∉ d.own p) :
    Calls Tryz.prog 140 #[.pointer (some ⟨B, 0, none⟩), .pointer (some ⟨A, 0, none⟩)] w fun e w' => e = .returned (.tuple #[]) ∧ WroteF p d pre post f s w w' := by
  obtain ⟨i0, hi, hz0, hz1, hz2⟩ := info_parts infoU8
  have hfm : f ∈ d.fs := by rw [h]; simp
  obtain ⟨num, safe, hfc⟩ := (hd.files f hfm).cell
  have hc1 : w.cell? ⟨f.blk, 1, none⟩ = some f.row := by rw [cell_of_row _ _ _ _ _ _ hfc]; rfl
  have HD := Lib.hid hd
  have HFO := Lib.hid (hd.files f hfm).own
  have HFM := Lib.hid hfm
  have HP := Lib.hid h
  have hBl : B < w.heap.size := World.block_lt_of_cell? w _ hB
  have hbB : ∀ x w1, Below w.heap.size w x → x.grownBy w1 f.row.ownBlock → w1.cell? ⟨B, 0, none⟩ = some (.pointer (some ⟨f.blk, 0, none⟩)) := fun x w1 hx hg => by
    rw [World.cell?_of_block ((hg.block B (by have := hx.size; omega) (fun e => nB (own_file hfm (by simp [FileE.own, ← e])))).trans (hx.block B hBl))]
    exact hB
  have HBB := Lib.hid hbB
  clear hbB
  clear hd hfc hfm h
  go_enter Tryz.func140, Tryz.ntmps140
  go_wp2_with fail
  go_region_law (refine step_append_string rfl (.tmp 6) (.tmp 7) 23 9 rfl 0 5 i0 (.int .u8 0) Tryz.underlying23 Tryz.underlying9 hi hz0 hz1 hz2 rfl f.row f.text.length (bytesOf f.text) rfl HFO.out.drew s rfl (by omega) (Nat.zero_le _) ?_; intro v1 w1 hown hg hat; obtain ⟨ga, gc, rfl⟩ := slice_of_own hown; obtain ⟨hc2, hf2⟩ := file_after HD.out HFM.out (bl_drew (Below.refl _ w)) hg; have hb2 := HBB.out _ _ (bl_drew (Below.refl _ w)) hg)
  all_goals
    rw [byteCells_eq, ← bytesOf_append] at hown
    have hlen : (f.text ++ s.data.toList).length = f.text.length + s.size := by rw [List.length_append, sizeL]
    have HW := Lib.hid (wrote_of HD.out HP.out (bl_drew (Below.refl _ w)) hg (by rw [hlen]; exact hown) hat)
    clear hown hg hat
    go_wp2
    exact bodyPost_end (v := .tuple #[]) (by simp [results, Tryz.results140, go_sem]) rfl ⟨rfl, _, HW.out⟩
end Go.Proofs.YtbhfbdcmamodcaaGreatDoor
namespace Go.Proofs.YtbhfbdcmamodcaaGreatDoor
open Go.RowKit Go.Maps
theorem view_parts {d : DiskS} {vpre vpost : View} {n : ByteArray} {t : List UInt8} (h : d.view = vpre ++ (n, t) :: vpost) : ∃ pre f post, d.fs = pre ++ f :: post ∧ f.name = n ∧ f.text = t ∧ pre.map (fun f => (f.name, f.text)) = vpre ∧ post.map (fun f => (f.name, f.text)) = vpost := by
  unfold DiskS.view at h
  obtain ⟨a, b, h1, h2, h3⟩ := List.map_eq_append_iff.1 h
  obtain ⟨f, c, h4, h5, h6⟩ := List.map_eq_cons_iff.1 h3
  subst h4
  cases h5
  exact ⟨a, f, c, h1, rfl, rfl, h2, h6⟩
theorem allocL_cells {w : World} {xs : List Value} {t : TypeId} {j : Nat} {u : Value} (H : Nat) (hH : w.heap.size = H) (h : xs[j]? = some u) : (w.alloc (.cells xs.toArray t)).cell? ⟨H, j, none⟩ = some u := by
  subst hH
  have := cells_new w xs t rfl j u h
  rwa [show (⟨w.heap.size, 0, none⟩ : Addr).add j = ⟨w.heap.size, j, none⟩ from by unfold Addr.add; split <;> simp_all] at this
set_option maxHeartbeats 4000000 in
set_option maxRecDepth 100000 in
theorem dAppend (p q : Nat) (F : Foot) (vpre vpost : View) (n : ByteArray) (t : List UInt8) (s : ByteArray) (w : World) (h : Disk w p F (vpre ++ (n, t) :: vpost) q) (hn : n.size ≤ 32) (hs : 1 ≤ s.size) (hs2 : s.size ≤ 4194304)
    (hM : ∀ x ∈ vpre ++ (n, t) :: vpost, x.2.length ≤ 524288) (hl : (vpre ++ (n, t) :: vpost).length ≤ 16) :
    Calls Tryz.prog 80 #[.pointer (some ⟨p, 0, none⟩), .string n, .string s] w fun e w' => e = .returned (.int .i64 0) ∧ ∃ F', Disk w' p F' (vpre ++ (n, t ++ s.data.toList) :: vpost) q ∧ Grew F F' w w' := by
  obtain ⟨d, hd, rfl, hv, hpn⟩ := h
  obtain ⟨pre, f, post, hfs, rfl, rfl, hvp, hvq⟩ := view_parts hv.symm
  have hfl : d.fs.length ≤ 16 := by rw [hv] at hl; simpa [DiskS.view] using hl
  have hMf : ∀ g ∈ d.fs, g.text.length ≤ 524288 := fun g hg => by
    have := hM (g.name, g.text) (by rw [hv]; exact List.mem_map.2 ⟨g, hg, rfl⟩)
    exact this
  have hfm : f ∈ d.fs := by rw [hfs]; simp
  obtain ⟨W1, hW1⟩ : ∃ W1, w.alloc (.cells #[.string s] 9) = W1 := ⟨_, rfl⟩
  have hb1 : Below w.heap.size w W1 := by rw [← hW1]; exact bl_alloc (Below.refl _ w) _
  have hz1 : W1.heap.size = w.heap.size + 1 := by rw [← hW1]; simp
  obtain ⟨W2, hW2⟩ : ∃ W2, W1.alloc (.cells #[.pointer (some ⟨f.blk, 0, none⟩)] 105) = W2 := ⟨_, rfl⟩
  have hb2 : Below w.heap.size w W2 := by rw [← hW2]; exact bl_alloc hb1 _
  have cA : W2.cell? ⟨w.heap.size, 0, none⟩ = some (.string s) := by rw [← hW2]; refine cell_al ?_ _; rw [← hW1]; exact allocL_cells _ rfl rfl
  have cB : W2.cell? ⟨w.heap.size + 1, 0, none⟩ = some (.pointer (some ⟨f.blk, 0, none⟩)) := by rw [← hW2]; exact allocL_cells _ hz1 rfl
  have hd2 := hd.below hb2
  obtain ⟨c1, c3, hbx⟩ := hd2.box
  have c0 : W2.cell? ⟨p, 0, none⟩ = some (.int .i64 16777216) := by rw [cell_of_row _ _ _ _ _ _ hbx]; rfl
  have c5 : W2.cell? ⟨p, 5, none⟩ = some (.int .i64 0) := by rw [cell_of_row _ _ _ _ _ _ hbx]; rfl
  have HF := Lib.hid (dFind (hd.below hb1) f.name (by unfold maxLen; omega) hfm rfl)
  have HU := Lib.hid (show ∀ W, Below W2.heap.size W2 W → Calls Tryz.prog 139 #[.pointer (some ⟨p, 0, none⟩)] W fun e w' => (∃ u : Nat, e = .returned (.int .i64 u) ∧ IntKind.i64.wrap ((u : Int) + (s.size : Int)) = ((u + s.size : Nat) : Int) ∧ decide ((16777216 : Int) < (u : Int) + (s.size : Int)) = false) ∧ Below W.heap.size W w' from
    fun W hW => (dUsed (hd2.below hW) 524288 hMf (by omega) (by omega)).mono fun e w' ⟨⟨u, h1, h2⟩, h3⟩ => by
      have hu2 : u ≤ 16 * 524288 := Nat.le_trans h2 (Nat.mul_le_mul_right _ hfl)
      exact ⟨⟨u, h1, by rw [IntWalk.i64_in _ (by omega)]; omega, by simp; omega⟩, h3⟩)
  have nB : w.heap.size + 1 ∉ d.own p := fun hk => by have := hd.lt _ hk; omega
  have hne : s.toList ≠ [] := by
    intro e
    rw [ByteArray.toList_eq] at e
    have : (0 : Nat) = s.size := by rw [← sizeL, e]; rfl
    omega
  have hem : s.toList.isEmpty = false := by rw [List.isEmpty_eq_false_iff]; exact hne
  have HW1 := Lib.hid hW1; have HW2 := Lib.hid hW2; have HZ1 := Lib.hid hz1
  have HQ := Lib.hid (show W2.cell? ⟨w.heap.size, 0, none⟩ = some (.string s) ∧ W2.cell? ⟨p, 0, none⟩ = some (.int .i64 16777216) from ⟨cA, c0⟩)
  have HE := Lib.hid (show (W2.cell? ⟨w.heap.size + 1, 0, none⟩ = some (.pointer (some ⟨f.blk, 0, none⟩)) ∧ W2.cell? ⟨p, 5, none⟩ = some (.int .i64 0)) ∧ Below w.heap.size w W2 from ⟨⟨cB, c5⟩, hb2⟩)
  have HD2 := Lib.hid hd2
  have HFS := Lib.hid hfs
  have hpz : p < w.heap.size := hd.lt _ own_p
  have hfl2 := hMf f hfm
  clear hW1 hb1 hW2 hb2 cA cB hd2 hd hbx c0 c5 hne hz1 hfm hMf hM hv hfs hl
  go_enter Tryz.func80, Tryz.ntmps80
  go_wp2_with fail
  rw [HW1.out]
  (with_reducible refine HF.out.mono ?_)
  rintro e w2 ⟨rfl, rfl⟩
  go_wp2_with fail
  rw [HW2.out, HZ1.out]
  go_region_held3 (fun w' => w'.cell? ⟨w.heap.size, 0, none⟩ = some (.string s) ∧ w'.cell? ⟨p, 0, none⟩ = some (.int .i64 16777216))
    (first | exact ⟨bl_cell HB3.out HQ.out.1, bl_cell HB3.out HQ.out.2⟩ | exact HQ.out)
    (first
      | (go_at_call 139; (with_reducible refine (HU.out _ (bl_drew (Below.refl _ W2))).mono ?_); rintro e w3 ⟨⟨u, rfl, hw1, hw2⟩, hb⟩; have HB3 := Lib.hid ((Below.drew (Below.refl _ W2)).trans hb); clear hb))
  all_goals
    have b5 := bl_cell HB3.out HE.out.1.2
    have HA1 := Lib.hid (sAppend1 p w.heap.size (w.heap.size + 1) d pre post f s w3 (HD2.out.below HB3.out) HFS.out (by omega) (bl_cell HB3.out HE.out.1.1) (bl_cell HB3.out HQ.out.1) nB)
    go_wp2_with (go_at_call 55; (with_reducible refine (sStepAppend p _ _ b5 _ HA1.out).mono ?_); rintro e w4 ⟨rfl, hr⟩; have HR4 := Lib.hid hr; clear hr)
    go_ret
    obtain ⟨row, k1, k2⟩ := HR4.out
    exact ⟨rfl, _, ⟨_, k1, rfl, by simp [DiskS.view, hvp, hvq], hpn⟩, Grew.after ((HE.out.2).trans (HB3.out.mono HE.out.2.size)) k2⟩
end Go.Proofs.YtbhfbdcmamodcaaGreatDoor
namespace Go.Proofs.YtbhfbdcmamodcaaGreatDoor
open Go.RowKit Go.Maps
def KeptD (p : Nat) (d d' : DiskS) (w w' : World) : Prop := DiskAt w' p d' ∧ Grew (fun k => k ∈ d.own p) (fun k => k ∈ d'.own p) w w'
set_option maxHeartbeats 4000000 in
set_option maxRecDepth 100000 in
theorem sSync1 (p B : Nat) (d : DiskS) (f : FileE) (w : World) (hd : DiskAt w p d) (hf : f ∈ d.fs) (hB : w.cell? ⟨B, 0, none⟩ = some (.pointer (some ⟨f.blk, 0, none⟩))) :
    Calls Tryz.prog 130 #[.pointer (some ⟨B, 0, none⟩)] w fun e w' => e = .returned (.tuple #[]) ∧ KeptD p d d w w' := by
  obtain ⟨num, safe, hfc⟩ := (hd.files f hf).cell
  obtain ⟨ga, gc, hrow⟩ := slice_of_own (hd.files f hf).own
  have hc1 : w.cell? ⟨f.blk, 1, none⟩ = some (.slice ga f.text.length gc) := by rw [cell_of_row _ _ _ _ _ _ hfc, ← hrow]; rfl
  have hc2 : w.cell? ⟨f.blk, 2, none⟩ = some (.int .i64 safe) := by rw [cell_of_row _ _ _ _ _ _ hfc]; rfl
  have hz2 : w.frozen? ⟨f.blk, 2, none⟩ = false := frozen_of_row _ _ _ _ _ hfc
  have hl := hd.lt f.blk (own_file hf (by simp [FileE.own]))
  have HS := Lib.hid (fun c => show KeptD p d d w (w.drew.setCell ⟨f.blk, 2, none⟩ (.int .i64 c)) from ⟨DiskAt.synced (w := w.drew) (hd.below (bl_drew (Below.refl _ w))) hf c, Grew.set (Grew.drew (Grew.refl hd.lt)) f.blk 2 _ (own_file hf (by simp [FileE.own]))⟩)
  clear hd hf hfc hrow
  go_enter Tryz.func130, Tryz.ntmps130
  go_wp2_with fail
  go_region
  all_goals
    go_wp2
    exact bodyPost_end (v := .tuple #[]) (by simp [results, Tryz.results130, go_sem]) rfl ⟨rfl, HS.out _⟩
set_option maxHeartbeats 4000000 in
set_option maxRecDepth 100000 in
theorem dSync (p q : Nat) (F : Foot) (v : View) (n : ByteArray) (w : World) (h : Disk w p F v q) (hn : n.size ≤ 32) (hm : n ∈ v.map Prod.fst) :
    Calls Tryz.prog 66 #[.pointer (some ⟨p, 0, none⟩), .string n] w fun e w' => e = .returned (.int .i64 0) ∧ ∃ F', Disk w' p F' v q ∧ Grew F F' w w' := by
  obtain ⟨d, hd, rfl, rfl, hpn⟩ := h
  rw [view_names] at hm
  obtain ⟨f, hfm, rfl⟩ := List.mem_map.1 hm
  obtain ⟨W2, hW2⟩ : ∃ W2, w.alloc (.cells #[.pointer (some ⟨f.blk, 0, none⟩)] 105) = W2 := ⟨_, rfl⟩
  have hb2 : Below w.heap.size w W2 := by rw [← hW2]; exact bl_alloc (Below.refl _ w) _
  have cB : W2.cell? ⟨w.heap.size, 0, none⟩ = some (.pointer (some ⟨f.blk, 0, none⟩)) := by rw [← hW2]; exact allocL_cells _ rfl rfl
  have hd2 := hd.below hb2
  obtain ⟨c1, c3, hbx⟩ := hd2.box
  have c5 : W2.cell? ⟨p, 5, none⟩ = some (.int .i64 0) := by rw [cell_of_row _ _ _ _ _ _ hbx]; rfl
  have HF := Lib.hid (dFind hd f.name (by unfold maxLen; omega) hfm rfl)
  have HS := Lib.hid (sStepSync p _ W2 c5 _ (sSync1 p w.heap.size d f W2 hd2 hfm cB))
  have HW2 := Lib.hid hW2
  have HB2 := Lib.hid hb2
  clear hW2 hb2 hd2 hd hbx hm hfm
  go_enter Tryz.func66, Tryz.ntmps66
  go_wp2_with fail
  (with_reducible refine HF.out.mono ?_)
  rintro e w2 ⟨rfl, rfl⟩
  go_wp2_with fail
  rw [HW2.out]
  (with_reducible refine HS.out.mono ?_)
  rintro e w4 ⟨rfl, hr⟩
  have HR4 := Lib.hid hr
  clear hr
  go_wp2
  go_ret
  exact ⟨rfl, _, ⟨d, HR4.out.1, rfl, rfl, hpn⟩, Grew.after HB2.out HR4.out.2⟩
set_option maxRecDepth 100000 in
theorem dReadNone (p q : Nat) (F : Foot) (v : View) (n : ByteArray) (w : World) (h : Disk w p F v q) (hn : n.size ≤ 32) (hm : n ∉ v.map Prod.fst) :
    Calls Tryz.prog 17 #[.pointer (some ⟨p, 0, none⟩), .string n] w fun e w' => e = .returned (.tuple #[.string ⟨#[]⟩, .int .i64 6]) ∧ w' = w := by
  obtain ⟨d, hd, rfl, rfl, hpn⟩ := h
  rw [view_names] at hm
  have HF := Lib.hid (dFindNone hd n (by unfold maxLen; omega) hm)
  clear hd hm
  go_enter Tryz.func17, Tryz.ntmps17
  go_wp2_with fail
  (with_reducible refine HF.out.mono ?_)
  rintro e w2 ⟨rfl, rfl⟩
  go_wp2
  exact bodyPost_ret (v := .tuple #[.string ⟨#[]⟩, .int .i64 6]) (by simp [results, Tryz.results17, go_sem]) rfl ⟨rfl, rfl⟩
end Go.Proofs.YtbhfbdcmamodcaaGreatDoor
namespace Go.Proofs.YtbhfbdcmamodcaaGreatDoor
open Go.RowKit Go.Maps
theorem Grew.shrink {F G G' : Foot} {w x : World} (h : Grew F G w x) (hs : ∀ k, G' k → G k) : Grew F G' w x := ⟨h.upd, fun k hk => h.sub k (hs k hk), fun k hk => h.lt k (hs k hk)⟩
theorem set3 {x : World} {p A m : Nat} {cs : Array Value} {t : TypeId} {a : Value} (hp : x.heap[p]? = some (.cells cs t (0, 0))) (h2 : cs[2]? = some (.map (some m))) (h4 : ∃ u, cs[4]? = some u) (hA : x.cell? ⟨A, 0, none⟩ = some a) (hne : A ≠ p) (v : Value) :
    (x.setCell ⟨p, 3, none⟩ v).cell? ⟨A, 0, none⟩ = some a ∧ (x.setCell ⟨p, 3, none⟩ v).cell? ⟨p, 2, none⟩ = some (.map (some m)) ∧ (∃ u, (x.setCell ⟨p, 3, none⟩ v).cell? ⟨p, 4, none⟩ = some u) ∧ (x.setCell ⟨p, 3, none⟩ v).frozen? ⟨p, 4, none⟩ = false := by
  have hb := heap_setCell_same x p 3 cs t v hp
  obtain ⟨u, hu⟩ := h4
  refine ⟨?_, ?_, ⟨u, ?_⟩, frozen_of_row _ _ _ _ _ hb⟩
  · rw [World.cell?_of_block (heap_setCell_other x ⟨p, 3, none⟩ A v hne)]; exact hA
  · rw [cell_of_row _ _ _ _ _ _ hb, Array.getElem?_setIfInBounds_ne (by decide)]; exact h2
  · rw [cell_of_row _ _ _ _ _ _ hb, Array.getElem?_setIfInBounds_ne (by decide)]; exact hu
set_option maxHeartbeats 4000000 in
set_option maxRecDepth 100000 in
theorem sSyncNames1 (p A : Nat) (d : DiskS) (w : World) (hd : DiskAt w p d) (hA : w.cell? ⟨A, 0, none⟩ = some (.pointer (some ⟨p, 0, none⟩))) (nA : A ∉ d.own p) :
    Calls Tryz.prog 58 #[.pointer (some ⟨A, 0, none⟩)] w fun e w' => e = .returned (.tuple #[]) ∧ KeptD p d ⟨d.m, .slice none 0 0, 0, d.fs⟩ w w' := by
  obtain ⟨c1, c3, hbx⟩ := hd.box
  obtain ⟨D, hm, hR⟩ := hd.map
  have hne : A ≠ p := fun e => nA (e ▸ own_p)
  have HM := Lib.hid (fun W (hW : W.heap[d.m]? = w.heap[d.m]?) => sMapsClone d.m d.fs.length D W (map_stays hm hW))
  have c2 : w.cell? ⟨p, 2, none⟩ = some (.map (some d.m)) := by rw [cell_of_row _ _ _ _ _ _ hbx]; rfl
  have HQ := Lib.hid (show w.cell? ⟨A, 0, none⟩ = some (.pointer (some ⟨p, 0, none⟩)) ∧ w.cell? ⟨p, 2, none⟩ = some (.map (some d.m)) from ⟨hA, c2⟩)
  have hpl := hd.lt p own_p
  have HX := Lib.hid (fun x (hx : Below w.heap.size w x) => (hx.block p hpl).trans hbx)
  have HD := Lib.hid hd
  clear hd hbx hm hR hA c2
  go_enter Tryz.func58, Tryz.ntmps58
  go_wp2_with fail
  go_region_held3 (fun w' => w'.cell? ⟨A, 0, none⟩ = some (.pointer (some ⟨p, 0, none⟩)) ∧ w'.cell? ⟨p, 2, none⟩ = some (.map (some d.m)))
    (first | exact ⟨(QS.out _).1, (QS.out _).2.1⟩ | exact ⟨bl_cell HB.out HQ.out.1, bl_cell HB.out HQ.out.2⟩ | exact HQ.out)
    (first
      | (go_at_call 59; (with_reducible refine (HM.out _ ?h1).mono ?_); (case h1 => rfl); rintro e w1 ⟨rfl, hb⟩; have HB := Lib.hid ((Below.drew (Below.refl _ w)).trans hb); have QS := Lib.hid (set3 (HX.out w1 HB.out) rfl ⟨_, rfl⟩ (bl_cell HB.out HQ.out.1) hne); have hfz := frozen_of_row w1 p 3 _ _ (HX.out w1 HB.out); have hcz : w1.cell? ⟨p, 3, none⟩ = some (.map (some c3)) := by { rw [cell_of_row _ _ _ _ _ _ (HX.out w1 HB.out)]; rfl }; clear hb))
  all_goals
    obtain ⟨s1, s2, ⟨u, s3⟩, s4⟩ := QS.out (.map (some w.heap.size))
    go_wp2
    exact bodyPost_end (v := .tuple #[]) (by simp [results, Tryz.results58, go_sem]) rfl ⟨rfl, (HD.out.below HB.out).named _, Grew.shrink ((((Grew.refl HD.out.lt).thenB HB.out).set p 3 _ own_p).set p 4 _ own_p) (fun k hk => by
      unfold DiskS.own at hk ⊢
      simp only [List.mem_cons, List.mem_append] at hk ⊢
      rcases hk with hk | hk | hk | hk
      · exact .inl hk
      · exact .inr (.inl hk)
      · cases hk
      · exact .inr (.inr (.inr hk)))⟩
set_option maxHeartbeats 4000000 in
set_option maxRecDepth 100000 in
theorem dSyncNames (p q : Nat) (F : Foot) (v : View) (w : World) (h : Disk w p F v q) (hm : (⟨#[]⟩ : ByteArray) ∉ v.map Prod.fst) :
    Calls Tryz.prog 29 #[.pointer (some ⟨p, 0, none⟩)] w fun e w' => e = .returned (.int .i64 0) ∧ ∃ F', Disk w' p F' v 0 ∧ Grew F F' w w' := by
  obtain ⟨d, hd, rfl, rfl, hpn⟩ := h
  rw [view_names] at hm
  obtain ⟨W2, hW2⟩ : ∃ W2, w.alloc (.cells #[.pointer (some ⟨p, 0, none⟩)] 25) = W2 := ⟨_, rfl⟩
  have hb2 : Below w.heap.size w W2 := by rw [← hW2]; exact bl_alloc (Below.refl _ w) _
  have cA : W2.cell? ⟨w.heap.size, 0, none⟩ = some (.pointer (some ⟨p, 0, none⟩)) := by rw [← hW2]; exact allocL_cells _ rfl rfl
  have hd2 := hd.below hb2
  obtain ⟨c1, c3, hbx⟩ := hd2.box
  have c5 : W2.cell? ⟨p, 5, none⟩ = some (.int .i64 0) := by rw [cell_of_row _ _ _ _ _ _ hbx]; rfl
  have HF := Lib.hid (dFindNone hd2 ⟨#[]⟩ (by show 0 ≤ maxLen; exact Nat.zero_le _) hm)
  have HS := Lib.hid (sStepSyncNames p _ W2 c5 _ (sSyncNames1 p w.heap.size d W2 hd2 cA (fun hk => Nat.lt_irrefl _ (hd.lt _ hk))))
  have HW2 := Lib.hid hW2
  have HB2 := Lib.hid hb2
  have HA := Lib.hid cA
  clear hW2 hb2 hd2 hd hbx hm cA
  go_enter Tryz.func29, Tryz.ntmps29
  go_wp2_with fail
  rw [HW2.out]
  (with_reducible refine HF.out.mono ?_)
  rintro e w2 ⟨rfl, rfl⟩
  have cA := HA.out
  go_wp2_with fail
  (with_reducible refine HS.out.mono ?_)
  rintro e w4 ⟨rfl, hr⟩
  have HR4 := Lib.hid hr
  clear hr
  go_wp2
  go_ret
  exact ⟨rfl, _, ⟨_, HR4.out.1, rfl, rfl, Nat.le_refl _⟩, Grew.after HB2.out HR4.out.2⟩
end Go.Proofs.YtbhfbdcmamodcaaGreatDoor
namespace Go.Proofs.YtbhfbdcmamodcaaGreatDoor
open Go.RowKit Go.Maps
theorem off_apart {w : World} {p : Nat} {d : DiskS} (hd : DiskAt w p d) (s : ByteArray) : (p :: d.m :: (d.pend.ownBlock.toList ++ (offF s d.fs).flatMap FileE.own)).Nodup := by
  refine hd.apart.sublist ?_
  unfold DiskS.own
  exact List.Sublist.cons_cons _ (List.Sublist.cons_cons _ (List.Sublist.append (List.Sublist.refl _) (flat_sub List.filter_sublist)))
theorem off_out {fs pre post : List FileE} {f : FileE} (h : fs = pre ++ f :: post) : (offF f.name fs).Sublist (pre ++ post) := by
  subst h
  unfold offF
  rw [List.filter_append, List.filter_cons_of_neg (by simp)]
  exact List.Sublist.append List.filter_sublist List.filter_sublist
theorem rename_apart {w : World} {p : Nat} {d : DiskS} (hd : DiskAt w p d) {f : FileE} (hf : f ∈ d.fs) (to_ : ByteArray) : (p :: d.m :: (d.pend.ownBlock.toList ++ (offF to_ (offF f.name d.fs) ++ [(⟨to_, f.blk, f.text, f.row⟩ : FileE)]).flatMap FileE.own)).Nodup := by
  obtain ⟨pre, post, hp⟩ := List.append_of_mem hf
  have h0 := hd.apart
  unfold DiskS.own at h0
  have h1 : (offF to_ (offF f.name d.fs)).Sublist (pre ++ post) := List.Sublist.trans List.filter_sublist (off_out hp)
  have h2 : (p :: d.m :: (d.pend.ownBlock.toList ++ (pre ++ post ++ [f]).flatMap FileE.own)).Nodup := by
    refine (List.Perm.nodup_iff ?_).1 h0
    refine List.Perm.cons _ (List.Perm.cons _ (List.Perm.append_left _ ?_))
    rw [hp]
    refine List.Perm.flatMap_right _ ?_
    rw [List.append_assoc]
    exact List.Perm.append_left _ (List.perm_append_singleton f post).symm
  refine h2.sublist (List.Sublist.cons_cons _ (List.Sublist.cons_cons _ (List.Sublist.append (List.Sublist.refl _) ?_)))
  rw [List.flatMap_append, List.flatMap_append (xs := pre ++ post)]
  exact List.Sublist.append (flat_sub h1) (by simp [FileE.own])
set_option maxHeartbeats 4000000 in
set_option maxRecDepth 100000 in
theorem sRename1 (p A B C E : Nat) (d : DiskS) (f : FileE) (to_ : ByteArray) (w : World) (hd : DiskAt w p d) (hf : f ∈ d.fs) (hn1 : f.name.size ≤ maxLen) (hn2 : to_.size ≤ maxLen) (hpn : d.pn ≤ 1000000) (hl : d.fs.length ≤ 1000000)
    (hA : w.cell? ⟨A, 0, none⟩ = some (.pointer (some ⟨p, 0, none⟩))) (hB : w.cell? ⟨B, 0, none⟩ = some (.string f.name)) (hC : w.cell? ⟨C, 0, none⟩ = some (.string to_)) (hE : w.cell? ⟨E, 0, none⟩ = some (.pointer (some ⟨f.blk, 0, none⟩))) (hne : f.name ≠ to_) :
    Calls Tryz.prog 205 #[.pointer (some ⟨B, 0, none⟩), .pointer (some ⟨C, 0, none⟩), .pointer (some ⟨A, 0, none⟩), .pointer (some ⟨E, 0, none⟩)] w fun e w' => e = .returned (.tuple #[]) ∧ Changed p d (offF to_ (offF f.name d.fs) ++ [⟨to_, f.blk, f.text, f.row⟩]) w w' := by
  have HC := Lib.hid (sChange p d f.name ⟨to_, f.blk, f.text, f.row⟩ w hd hn1 hn2 hpn hl ⟨(hd.files f hf).cell, (hd.files f hf).own⟩ (rename_apart hd hf to_))
  have hnb : (f.name.toList == to_.toList) = false := by
    rw [beq_eq_false_iff_ne]
    intro e
    rw [ByteArray.toList_eq, ByteArray.toList_eq] at e
    exact hne (ByteArray.ext (Array.toList_inj.1 e))
  clear hd hf hne
  go_enter Tryz.func205, Tryz.ntmps205
  go_wp2_with (go_at_call 57; (with_reducible refine HC.out.mono ?_); rintro e w1 ⟨rfl, hb⟩; have HR := Lib.hid hb; clear hb)
  exact bodyPost_end (v := .tuple #[]) (by simp [results, Tryz.results205, go_sem]) rfl ⟨rfl, HR.out⟩
set_option maxHeartbeats 4000000 in
set_option maxRecDepth 100000 in
theorem sRemove1 (p A B : Nat) (d : DiskS) (n : ByteArray) (w : World) (hd : DiskAt w p d) (hn1 : n.size ≤ maxLen) (hpn : d.pn ≤ 1000000) (hl : d.fs.length ≤ 1000000)
    (hA : w.cell? ⟨A, 0, none⟩ = some (.pointer (some ⟨p, 0, none⟩))) (hB : w.cell? ⟨B, 0, none⟩ = some (.string n)) :
    Calls Tryz.prog 157 #[.pointer (some ⟨A, 0, none⟩), .pointer (some ⟨B, 0, none⟩)] w fun e w' => e = .returned (.tuple #[]) ∧ Changed p d (offF n d.fs) w w' := by
  have HC := Lib.hid (sChangeNil p d n ⟨#[]⟩ w hd hn1 hpn hl (off_apart hd n))
  clear hd
  go_enter Tryz.func157, Tryz.ntmps157
  go_wp2_with (go_at_call 57; (with_reducible refine HC.out.mono ?_); rintro e w1 ⟨rfl, hb⟩; have HR := Lib.hid hb; clear hb)
  exact bodyPost_end (v := .tuple #[]) (by simp [results, Tryz.results157, go_sem]) rfl ⟨rfl, HR.out⟩
set_option maxHeartbeats 4000000 in
set_option maxRecDepth 100000 in
theorem dRename (p q : Nat) (F : Foot) (v : View) (n to_ : ByteArray) (t : List UInt8) (w : World) (h : Disk w p F v q) (hg : GoodName to_) (hn : n.size ≤ 32) (hm : (n, t) ∈ v) (hne : n ≠ to_) (hq : q ≤ 1000000) (hl : v.length ≤ 1000000) :
    Calls Tryz.prog 155 #[.pointer (some ⟨p, 0, none⟩), .string n, .string to_] w fun e w' => e = .returned (.int .i64 0) ∧ ∃ F', Disk w' p F' (offV to_ (offV n v) ++ [(to_, t)]) (q + 1) ∧ Grew F F' w w' := by
  obtain ⟨d, hd, rfl, rfl, hpn⟩ := h
  obtain ⟨f, hfm, he⟩ := List.mem_map.1 hm
  cases he
  have hfl : d.fs.length ≤ 1000000 := by simpa [DiskS.view] using hl
  obtain ⟨W1, hW1⟩ : ∃ W1, ((w.alloc (.cells #[.pointer (some ⟨p, 0, none⟩)] 25)).alloc (.cells #[.string f.name] 9)).alloc (.cells #[.string to_] 9) = W1 := ⟨_, rfl⟩
  have hb1 : Below w.heap.size w W1 := by rw [← hW1]; exact bl_alloc (bl_alloc (bl_alloc (Below.refl _ w) _) _) _
  have hz1 : W1.heap.size = w.heap.size + 3 := by rw [← hW1]; simp
  have cA : W1.cell? ⟨w.heap.size, 0, none⟩ = some (.pointer (some ⟨p, 0, none⟩)) := by rw [← hW1]; exact cell_al (cell_al (allocL_cells _ rfl rfl) _) _
  have cB : W1.cell? ⟨w.heap.size + 1, 0, none⟩ = some (.string f.name) := by rw [← hW1]; exact cell_al (allocL_cells _ (by simp) rfl) _
  have cC : W1.cell? ⟨w.heap.size + 2, 0, none⟩ = some (.string to_) := by rw [← hW1]; exact allocL_cells _ (by simp) rfl
  have hd1 := hd.below hb1
  have HF := Lib.hid (dFind hd1 f.name (by unfold maxLen; omega) hfm rfl)
  have HN := Lib.hid (sNamed to_ hg)
  have HW1 := Lib.hid hW1
  have HB1 := Lib.hid hb1
  have HD := Lib.hid hd
  have HZ1 := Lib.hid hz1
  have HG := Lib.hid hg
  have HFM := Lib.hid hfm
  have HNE := Lib.hid hne
  have HQ := Lib.hid (show W1.cell? ⟨w.heap.size, 0, none⟩ = some (.pointer (some ⟨p, 0, none⟩)) ∧ W1.cell? ⟨w.heap.size + 1, 0, none⟩ = some (.string f.name) ∧ W1.cell? ⟨w.heap.size + 2, 0, none⟩ = some (.string to_) from ⟨cA, cB, cC⟩)
  clear hW1 hb1 hz1 hd1 hd hg hm hfm hne hl
  go_enter Tryz.func155, Tryz.ntmps155
  go_wp2_with fail
  rw [HW1.out]
  go_wp2_with fail
  (with_reducible refine HF.out.mono ?_)
  rintro e w2 ⟨rfl, rfl⟩
  have cC2 : ∀ o, (w2.alloc o).cell? ⟨w.heap.size + 2, 0, none⟩ = some (.string to_) := fun o => cell_al HQ.out.2.2 o
  go_wp2_with fail
  rw [HZ1.out]
  generalize hW2 : w2.alloc (.cells #[.pointer (some ⟨f.blk, 0, none⟩)] 105) = W2
  (with_reducible refine (HN.out _).mono ?_)
  rintro e w3 ⟨rfl, hb⟩
  have hbb : Below w2.heap.size w2 W2 := by rw [← hW2]; exact bl_alloc (Below.refl _ _) _
  have cE : W2.cell? ⟨w.heap.size + 3, 0, none⟩ = some (.pointer (some ⟨f.blk, 0, none⟩)) := by rw [← hW2]; exact allocL_cells _ HZ1.out rfl
  have hb3 := bl_trans hbb hb
  have HB3 := Lib.hid (bl_trans HB1.out hb3)
  have a0 := bl_cell hb3 HQ.out.1
  have a1 := bl_cell hb3 HQ.out.2.1
  have a2 := bl_cell hb3 HQ.out.2.2
  have a3 := bl_cell hb cE
  have hd3 := HD.out.below HB3.out
  obtain ⟨c1, c3, hbx⟩ := hd3.box
  have c5 : w3.cell? ⟨p, 5, none⟩ = some (.int .i64 0) := by rw [cell_of_row _ _ _ _ _ _ hbx]; rfl
  have HS := Lib.hid (sStepRename p _ w3 c5 _ (sRename1 p w.heap.size (w.heap.size + 1) (w.heap.size + 2) (w.heap.size + 3) d f to_ w3 hd3 HFM.out (by unfold maxLen; omega) (goodName_le HG.out) (by omega) hfl a0 a1 a2 a3 HNE.out))
  clear hbx hd3 hb hbb hb3 cE hW2 a1 a2 a3 cA cB cC cC2
  go_wp2_with fail
  (with_reducible refine HS.out.mono ?_)
  rintro e w4 ⟨rfl, hr⟩
  have HR4 := Lib.hid hr
  clear hr
  go_wp2
  go_ret
  obtain ⟨d', k1, k2, k3, k4⟩ := changed_disk HD.out HB3.out HR4.out (fun k hk => .inl (by
    obtain ⟨g, hg, hk⟩ := List.mem_flatMap.1 hk
    rcases List.mem_append.1 hg with hg | hg
    · exact own_file (off_mem.1 (off_mem.1 hg).1).1 hk
    · rw [List.mem_singleton] at hg
      subst hg
      exact own_file HFM.out hk))
  refine ⟨rfl, _, ⟨d', k1, rfl, ?_, by omega⟩, k4⟩
  unfold DiskS.view
  rw [k2, List.map_append, off_view, off_view]
  rfl
set_option maxHeartbeats 4000000 in
set_option maxRecDepth 100000 in
theorem dRemove (p q : Nat) (F : Foot) (v : View) (n : ByteArray) (w : World) (h : Disk w p F v q) (hn : n.size ≤ 32) (hm : n ∈ v.map Prod.fst) (hq : q ≤ 1000000) (hl : v.length ≤ 1000000) :
    Calls Tryz.prog 94 #[.pointer (some ⟨p, 0, none⟩), .string n] w fun e w' => e = .returned (.int .i64 0) ∧ ∃ F', Disk w' p F' (offV n v) (q + 1) ∧ Grew F F' w w' := by
  obtain ⟨d, hd, rfl, rfl, hpn⟩ := h
  rw [view_names] at hm
  obtain ⟨f, hfm, rfl⟩ := List.mem_map.1 hm
  have hfl : d.fs.length ≤ 1000000 := by simpa [DiskS.view] using hl
  obtain ⟨W1, hW1⟩ : ∃ W1, (w.alloc (.cells #[.pointer (some ⟨p, 0, none⟩)] 25)).alloc (.cells #[.string f.name] 9) = W1 := ⟨_, rfl⟩
  have hb1 : Below w.heap.size w W1 := by rw [← hW1]; exact bl_alloc (bl_alloc (Below.refl _ w) _) _
  have cA : W1.cell? ⟨w.heap.size, 0, none⟩ = some (.pointer (some ⟨p, 0, none⟩)) := by rw [← hW1]; exact cell_al (allocL_cells _ rfl rfl) _
  have cB : W1.cell? ⟨w.heap.size + 1, 0, none⟩ = some (.string f.name) := by rw [← hW1]; exact allocL_cells _ (by simp) rfl
  have hd1 := hd.below hb1
  obtain ⟨c1, c3, hbx⟩ := hd1.box
  have c5 : W1.cell? ⟨p, 5, none⟩ = some (.int .i64 0) := by rw [cell_of_row _ _ _ _ _ _ hbx]; rfl
  have HF := Lib.hid (dFind hd1 f.name (by unfold maxLen; omega) hfm rfl)
  have HS := Lib.hid (sStepRemove p _ W1 c5 _ (sRemove1 p w.heap.size (w.heap.size + 1) d f.name W1 hd1 (by unfold maxLen; omega) (by omega) hfl cA cB))
  have HW1 := Lib.hid hW1
  have HB1 := Lib.hid hb1
  have HD := Lib.hid hd
  have HA := Lib.hid (show W1.cell? ⟨w.heap.size, 0, none⟩ = some (.pointer (some ⟨p, 0, none⟩)) ∧ W1.cell? ⟨w.heap.size + 1, 0, none⟩ = some (.string f.name) from ⟨cA, cB⟩)
  clear hW1 hb1 hd1 hd hm hfm hl hbx cA cB
  go_enter Tryz.func94, Tryz.ntmps94
  go_wp2_with fail
  rw [HW1.out]
  obtain ⟨cA, cB⟩ := HA.out
  go_wp2_with fail
  (with_reducible refine HF.out.mono ?_)
  rintro e w2 ⟨rfl, rfl⟩
  go_wp2_with fail
  (with_reducible refine HS.out.mono ?_)
  rintro e w4 ⟨rfl, hr⟩
  have HR4 := Lib.hid hr
  clear hr
  go_wp2
  go_ret
  obtain ⟨d', k1, k2, k3, k4⟩ := changed_disk HD.out HB1.out HR4.out (fun k hk => .inl (by
    obtain ⟨g, hg, hk⟩ := List.mem_flatMap.1 hk
    exact own_file (off_mem.1 hg).1 hk))
  refine ⟨rfl, _, ⟨d', k1, rfl, ?_, by omega⟩, k4⟩
  unfold DiskS.view
  rw [k2, off_view]
end Go.Proofs.YtbhfbdcmamodcaaGreatDoor
namespace Go.Proofs.YtbhfbdcmamodcaaGreatDoor
open Go.RowKit Go.Maps
set_option maxHeartbeats 1000000 in
set_option maxRecDepth 100000 in
theorem sFirstWrite (A B : Nat) (b : Nat) (w : World) (R1 R2 : World → Prop) (c0 : w.cell? ⟨b, 0, none⟩ = some (.func (.func 79) #[] #[.pointer (some ⟨A, 0, none⟩), .pointer (some ⟨B, 0, none⟩)])) (c1 : ∀ x, R1 x → x.cell? ⟨b, 1, none⟩ = some (.func (.func 81) #[] #[.pointer (some ⟨A, 0, none⟩)]))
    (h1 : Calls Tryz.prog 79 #[.pointer (some ⟨A, 0, none⟩), .pointer (some ⟨B, 0, none⟩)] w fun e w' => e = .returned (.int .i64 0) ∧ R1 w') (h2 : ∀ x, R1 x → Calls Tryz.prog 81 #[.pointer (some ⟨A, 0, none⟩)] x fun e w' => e = .returned (.int .i64 0) ∧ R2 w') :
    Calls Tryz.prog 26 #[.slice (some ⟨b, 0, none⟩) 2 2] w fun e w' => e = .returned (.int .i64 0) ∧ R2 w' := by
  have H1 := Lib.hid h1; have H2 := Lib.hid h2; have C0 := Lib.hid c0; have C1 := Lib.hid c1
  clear h1 h2 c0 c1
  go_enter Tryz.func26, Tryz.ntmps26
  go_wp2
  go_loopw [8] (fun iv wr => ∃ k : Nat, k ≤ 2 ∧ iv = .int .i64 k ∧ ((k = 0 ∧ wr = w) ∨ (k = 1 ∧ R1 wr) ∨ (k = 2 ∧ R2 wr))) (fun iv _ => 2 - (intOf iv).toNat)
  case atStart => exact ⟨0, by omega, rfl, .inl ⟨rfl, rfl⟩⟩
  case round =>
    obtain ⟨k, hk, rfl, hh⟩ := hrel
    rcases hh with ⟨rfl, rfl⟩ | ⟨rfl, hr⟩ | ⟨rfl, hr⟩
    · have c0 := C0.out
      go_wp2_with (go_at_call 79; (with_reducible refine H1.out.mono ?_); rintro e w2 ⟨rfl, hr⟩; have HR := Lib.hid hr; clear hr)
      go_roundw
      case rel => exact ⟨1, by omega, by go_num, .inr (.inl ⟨rfl, HR.out⟩)⟩
      case measure => simp [intOf]
    · have c1 := C1.out _ hr
      have HX := Lib.hid (H2.out _ hr)
      clear hr
      go_wp2_with (go_at_call 81; (with_reducible refine HX.out.mono ?_); rintro e w2 ⟨rfl, hr⟩; have HR := Lib.hid hr; clear hr)
      go_roundw
      case rel => exact ⟨2, by omega, by go_num, .inr (.inr ⟨rfl, HR.out⟩)⟩
      case measure => simp [intOf]
    · have HR := Lib.hid hr
      clear hr
      go_wp2
      go_ret
      exact ⟨rfl, HR.out⟩
set_option maxHeartbeats 1000000 in
set_option maxRecDepth 100000 in
theorem sFirstOpen (A p : Nat) (b : Nat) (w : World) (R1 R2 : World → Prop) (c0 : w.cell? ⟨b, 0, none⟩ = some (.func (.func 27) #[] #[.pointer (some ⟨A, 0, none⟩)])) (c1 : ∀ x, R1 x → x.cell? ⟨b, 1, none⟩ = some (.func (.func 29) #[.pointer (some ⟨p, 0, none⟩)] #[]))
    (h1 : Calls Tryz.prog 27 #[.pointer (some ⟨A, 0, none⟩)] w fun e w' => e = .returned (.int .i64 0) ∧ R1 w') (h2 : ∀ x, R1 x → Calls Tryz.prog 29 #[.pointer (some ⟨p, 0, none⟩)] x fun e w' => e = .returned (.int .i64 0) ∧ R2 w') :
    Calls Tryz.prog 26 #[.slice (some ⟨b, 0, none⟩) 2 2] w fun e w' => e = .returned (.int .i64 0) ∧ R2 w' := by
  have H1 := Lib.hid h1; have H2 := Lib.hid h2; have C0 := Lib.hid c0; have C1 := Lib.hid c1
  clear h1 h2 c0 c1
  go_enter Tryz.func26, Tryz.ntmps26
  go_wp2
  go_loopw [8] (fun iv wr => ∃ k : Nat, k ≤ 2 ∧ iv = .int .i64 k ∧ ((k = 0 ∧ wr = w) ∨ (k = 1 ∧ R1 wr) ∨ (k = 2 ∧ R2 wr))) (fun iv _ => 2 - (intOf iv).toNat)
  case atStart => exact ⟨0, by omega, rfl, .inl ⟨rfl, rfl⟩⟩
  case round =>
    obtain ⟨k, hk, rfl, hh⟩ := hrel
    rcases hh with ⟨rfl, rfl⟩ | ⟨rfl, hr⟩ | ⟨rfl, hr⟩
    · have c0 := C0.out
      go_wp2_with (go_at_call 27; (with_reducible refine H1.out.mono ?_); rintro e w2 ⟨rfl, hr⟩; have HR := Lib.hid hr; clear hr)
      go_roundw
      case rel => exact ⟨1, by omega, by go_num, .inr (.inl ⟨rfl, HR.out⟩)⟩
      case measure => simp [intOf]
    · have c1 := C1.out _ hr
      have HX := Lib.hid (H2.out _ hr)
      clear hr
      go_wp2_with (go_at_call 29; (with_reducible refine HX.out.mono ?_); rintro e w2 ⟨rfl, hr⟩; have HR := Lib.hid hr; clear hr)
      go_roundw
      case rel => exact ⟨2, by omega, by go_num, .inr (.inr ⟨rfl, HR.out⟩)⟩
      case measure => simp [intOf]
    · have HR := Lib.hid hr
      clear hr
      go_wp2
      go_ret
      exact ⟨rfl, HR.out⟩
end Go.Proofs.YtbhfbdcmamodcaaGreatDoor
