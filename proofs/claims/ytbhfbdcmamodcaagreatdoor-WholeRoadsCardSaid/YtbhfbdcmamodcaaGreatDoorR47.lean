/- The whole: the index is read from its disk; The store, the disk and the index, all together: updates, rows, and the index read anew. -/
import Derived.Test.YtbhfbdcmamodcaaGreatDoorR46
import Derived.Test.YtbhfbdcmamodcaaGreatDoorR45
import Derived.Deep.AppendLies
set_option linter.unusedVariables false
set_option linter.unusedSimpArgs false
namespace Go.Proofs.YtbhfbdcmamodcaaGreatDoor
open Go.RowKit Go.Maps TrMath FrMath PackMath SumMath
theorem offDisk {w : World} {p q : Nat} {F : Foot} {v : View} (hD : Disk w p F v q) : w.cell? ⟨p, 6, none⟩ = some (.bool false) := by
  obtain ⟨d, hd, _⟩ := hD
  obtain ⟨_, _, hb⟩ := hd.box
  rw [cell_of_row _ _ _ _ _ _ hb]
  rfl
set_option maxHeartbeats 4000000 in
set_option maxRecDepth 100000 in
theorem xOpenNone {w : World} {p q : Nat} {F : Foot} {v : View} (hD : Disk w p F v q) (hn : chainN ∉ v.map Prod.fst) (N : Nat) :
    Calls Tryz.prog 31 #[.pointer (some ⟨p, 0, none⟩), .int .i64 (N : Nat)] w fun e w' => e = .returned (.tuple #[.pointer (some ⟨w.heap.size, 0, none⟩), .int .i64 0]) ∧ w' = w.alloc (.cells #[.pointer (some ⟨p, 0, none⟩), .slice none 0 0, .slice none 0 0] 97) := by
  have HOf := Lib.hid (sOff p w (offDisk hD))
  have HRd := Lib.hid (dReadNone p q F v chainN (w.alloc (.cells #[.pointer (some ⟨p, 0, none⟩), .slice none 0 0, .slice none 0 0] 97)) (hD.below (bl_alloc (Below.refl _ _) _)) (by decide) hn)
  clear hD hn
  go_enter Tryz.func31, Tryz.ntmps31
  go_wp2_with fail
  (with_reducible refine HOf.out.mono ?_)
  rintro e w2 ⟨rfl, rfl⟩
  go_wp2_with fail
  (with_reducible refine HRd.out.mono ?_)
  rintro e w3 ⟨rfl, rfl⟩
  go_wp2
  exact bodyPost_ret (v := .tuple #[.pointer (some ⟨w2.heap.size, 0, none⟩), .int .i64 0]) (by simp [results, Tryz.results31, go_sem]) rfl ⟨rfl, rfl⟩
set_option maxHeartbeats 8000000 in
set_option maxRecDepth 100000 in
theorem xOpen {w : World} {p q : Nat} {F : Foot} {v : View} {L : List Link} {gs : List GraphP} (hD : Disk w p F v q) (hm : (chainN, chainB L) ∈ v) (hgc : GoodChain L) (hl100 : ∀ y ∈ L, y.1 < 100) (hlen : L.length = gs.length)
    (hfiles : ∀ i (h : i < L.length) (h2 : i < gs.length), (nameG L[i].1, graphB gs[i]) ∈ v ∧ L[i] = linkOf L[i].1 gs[i]) (hgood : ∀ g ∈ gs, GoodGraph g) (hbase : ∀ i (h : i < gs.length), gs[i].base = totalL (L.take i)) (N : Nat) (hN : ∀ g ∈ gs, g.base + g.rows.length ≤ N) (hN2 : N ≤ 1000000) :
    Calls Tryz.prog 31 #[.pointer (some ⟨p, 0, none⟩), .int .i64 (N : Nat)] w fun e w' => e = .returned (.tuple #[.pointer (some ⟨w.heap.size, 0, none⟩), .int .i64 0]) ∧ (∃ I R, IndexAt w' w.heap.size I R ∧ I.disk = p ∧ I.links = L ∧ I.graphs.map GrE.g = gs ∧ ∀ j, I.foot w.heap.size R j → w.heap.size ≤ j) ∧ Below w.heap.size w w' := by
  obtain ⟨i0, hi, hz0, hz1, hz2⟩ := info_parts infoLink
  obtain ⟨j0, hj, hj0, hj1, hj2⟩ := info_parts infoGraphC
  obtain ⟨W1, hW1⟩ : ∃ W1, w.alloc (.cells #[.pointer (some ⟨p, 0, none⟩), .slice none 0 0, .slice none 0 0] 97) = W1 := ⟨_, rfl⟩
  have hb1 : Below w.heap.size w W1 := by rw [← hW1]; exact bl_alloc (Below.refl _ w) _
  have hs1 : W1.heap[w.heap.size]? = some (.cells #[.pointer (some ⟨p, 0, none⟩), .slice none 0 0, .slice none 0 0] 97 (0, 0)) := by rw [← hW1]; exact heap_alloc_new _ _
  have hz1w : W1.heap.size = w.heap.size + 1 := by rw [← hW1]; simp
  have htx : (⟨(chainB L).toArray⟩ : ByteArray).data.toList = chainB L := by simp
  have h8 := hgc.len
  have HOf := Lib.hid (sOff p w (offDisk hD))
  have HRd := Lib.hid (dRead p q F v chainN (chainB L) W1 (hD.below hb1) (by decide) hm)
  have HDc := Lib.hid (lcDecode L hgc ⟨(chainB L).toArray⟩ htx W1)
  have HW1 := Lib.hid hW1; have HB1 := Lib.hid hb1; have HS1 := Lib.hid hs1; have HZ1 := Lib.hid hz1w; have HD := Lib.hid (hD.below hb1); have HFL := Lib.hid hD.lt
  have HFI := Lib.hid hfiles; have HGD := Lib.hid hgood; have HBS := Lib.hid hbase; have HNN := Lib.hid hN; have HL1 := Lib.hid hl100; have HLN := Lib.hid hlen
  have htot : totalL L ≤ 65536 := hgc.total
  clear hD hm hgc hW1 hb1 hs1 hz1w htx hfiles hgood hbase hN hl100 hlen
  go_enter Tryz.func31, Tryz.ntmps31
  go_wp2_with fail
  (with_reducible refine HOf.out.mono ?_)
  rintro e w2 ⟨rfl, rfl⟩
  go_wp2_with fail
  rw [HW1.out]
  go_wp2_with fail
  (with_reducible refine HRd.out.mono ?_)
  rintro e w3 ⟨rfl, hw3⟩
  rw [hw3]
  clear hw3
  go_wp2_with fail
  (with_reducible refine HDc.out.mono ?_)
  rintro e W2 ⟨dv, rfl, hdl, hb⟩
  obtain ⟨la, lc, rfl, hlc, _, _, hlb, _⟩ := OwnX.sl hdl
  have HB2 := Lib.hid hb
  have hzz : W2.heap.size ≥ w2.heap.size + 1 := by have := hb.size; have := HZ1.out; omega
  have HX2 := Lib.hid (show W2.heap[w2.heap.size]? = some (.cells #[.pointer (some ⟨p, 0, none⟩), .slice none 0 0, .slice none 0 0] 97 (0, 0)) from (hb.block _ (by have := HZ1.out; omega)).trans HS1.out)
  have HD2 := Lib.hid (HD.out.below hb)
  have HLC := Lib.hid hlc
  have HLB := Lib.hid (show ∀ b off, la = some ⟨b, off, none⟩ → W1.heap.size ≤ b ∧ b < W2.heap.size from fun b off e => hdl.lt b (hlb b off e))
  have HZ2 := Lib.hid hzz
  clear hdl hlc hlb hb hzz
  go_wp2_with fail
  go_loopw [39] (fun iv wr => ∃ k : Nat, k ≤ L.length ∧ iv = .int .i64 k ∧ OpenRel w2 W2 wr p L gs k) (fun iv _ => L.length - (intOf iv).toNat)
  case atStart =>
    refine ⟨0, Nat.zero_le _, rfl, ⟨⟨⟨p, .slice none 0 0, .slice none 0 0, [], []⟩, fun _ => False, ⟨HX2.out, OwnX.nil _ _ _ _ _, OwnX.nil _ _ _ _ _, by simp, fun _ h => h.elim, by simp [IndexS.own, Value.ownBlock], fun _ _ h => h⟩, rfl, by simp, by simp, fun j hj => ?_⟩, Upd.refl _ _⟩⟩
    rcases hj with hj | hj
    · simp [IndexS.own, Value.ownBlock] at hj
      exact .inl hj
    · exact hj.elim
  case round =>
    obtain ⟨k, hk, rfl, hrel⟩ := hrel
    by_cases hlt : k < L.length
    · obtain ⟨⟨I, R, hI, hId, hIl, hIg, hIf⟩, hkeep⟩ := hrel
      obtain ⟨dsk, ilv, igv, lks, grs⟩ := I
      simp only at hId hIl hIg
      subst hId
      obtain ⟨xa, xc, hxl, hxc, _, _, _, _⟩ := hI.lv.sl
      obtain ⟨ya, yc, hyl, hyc, _, _, _, _⟩ := hI.gv.sl
      simp only at hxl hyl hxc hyc
      subst hxl hyl
      have hlen := HLN.out
      have hkg : k < gs.length := by omega
      obtain ⟨f1, f2⟩ := HFI.out k hlt hkg
      obtain ⟨g, hg⟩ : ∃ g, gs[k] = g := ⟨_, rfl⟩
      have hgd := HGD.out g (by rw [← hg]; exact List.getElem_mem hkg)
      have hgN := HNN.out g (by rw [← hg]; exact List.getElem_mem hkg)
      have hgb := HBS.out k hkg
      have hn1 := HL1.out L[k] (List.getElem_mem hlt)
      obtain ⟨n, hn⟩ : ∃ n, L[k].1 = n := ⟨_, rfl⟩
      rw [hn] at f1 f2 hn1
      rw [hg] at f1 f2 hgb
      have hlkl : lks.length = k := by rw [hIl, List.length_take]; omega
      have hgrl : grs.length = k := by rw [← List.length_map (f := GrE.g), hIg, List.length_take]; omega
      have hlk8 : lks.length ≤ 8 := by omega
      have hgr8 : grs.length ≤ 8 := by omega
      clear hlkl hgrl hlen
      have hcl : CellsAt wr la (L.flatMap linkV) := HLC.out.stays (fun b off e _ => hkeep.block b (HLB.out b off e).2 (fun e2 => by have h1 := HLB.out b off e; have h2 := HZ1.out; omega)) hkeep.size
      obtain ⟨lb, lo, rfl, _, hce⟩ := hcl.elem linkW hlt (by decide)
      have d0 := hce 0 _ rfl; have d1 := hce 1 _ rfl; have d2 := hce 2 _ rfl
      rw [f2] at d0 d1 d2
      simp only [linkOf, Nat.add_zero] at d0 d1 d2
      obtain ⟨wA, hwA⟩ : ∃ wA, wr.alloc (.cells #[.int .i64 (n : Nat), .int .i64 (g.rows.length : Nat), .int .u32 (crc (graphB g) : Nat)] 149) = wA := ⟨_, rfl⟩
      have hbA : Below wr.heap.size wr wA := by rw [← hwA]; exact bl_alloc (Below.refl _ wr) _
      have hsA : wA.heap[wr.heap.size]? = some (.cells #[.int .i64 (n : Nat), .int .i64 (g.rows.length : Nat), .int .u32 (crc (graphB g) : Nat)] 149 (0, 0)) := by rw [← hwA]; exact heap_alloc_new _ _
      have hzA : wA.heap.size = wr.heap.size + 1 := by rw [← hwA]; simp
      have hDA : Disk wA dsk F v q := (HD2.out.stays (hkeep.stays (fun j a b => by have h1 := HFL.out j b; have h2 := HZ2.out; omega) HD2.out.lt)).below hbA
      have htk : totalL lks ≤ 1000000 := by
        rw [hIl]
        have h1 := congrArg totalL (List.take_append_drop k L)
        unfold totalL at h1 htot ⊢
        rw [List.map_append, List.sum_append] at h1
        omega
      have HSt := Lib.hid (xStands (hI.below hbA) rfl hDA n hn1 g hgd f1 (by rw [hgb, ← hIl]) (show lks.length ≤ 1000 by omega) htk N hgN hN2)
      have e0 : wA.cell? ⟨wr.heap.size, 0, none⟩ = some (.int .i64 (n : Nat)) := by rw [cell_of_row _ _ _ _ _ _ hsA]; rfl
      have e1 : wA.cell? ⟨wr.heap.size, 1, none⟩ = some (.int .i64 (g.rows.length : Nat)) := by rw [cell_of_row _ _ _ _ _ _ hsA]; rfl
      have e2 : wA.cell? ⟨wr.heap.size, 2, none⟩ = some (.int .u32 (crc (graphB g) : Nat)) := by rw [cell_of_row _ _ _ _ _ _ hsA]; rfl
      have HI := Lib.hid hI; have HIf := Lib.hid hIf; have HIl := Lib.hid hIl; have HIg := Lib.hid hIg; have HKP := Lib.hid hkeep; have HWA := Lib.hid hwA; have HBA := Lib.hid hbA; have HSA := Lib.hid hsA; have HZA := Lib.hid hzA; have HF2 := Lib.hid f2; have HGK := Lib.hid hg; have HNK := Lib.hid hn
      clear hI hIf hIl hIg hkeep hwA hbA hsA hzA f1 f2 hg hn hcl hce hxc hyc hgb hgN hgd hDA htk
      go_wp2_with fail
      rw [HWA.out]
      go_wp2_with fail
      (with_reducible refine HSt.out.mono ?_)
      rintro e w5 ⟨ga, gc, rfl, hgr, hb5⟩
      obtain ⟨W6, hW6⟩ : ∃ W6, w5.alloc (.cells #[.int .i64 (g.base : Nat), .int .i64 (g.set.H : Nat), .int .i64 (g.set.P : Nat), .int .i64 (g.set.M : Nat), .int .u32 (g.set.S : Nat), .slice ga g.rows.length gc] 103) = W6 := ⟨_, rfl⟩
      have hb6 : Below w5.heap.size w5 W6 := by rw [← hW6]; exact bl_alloc (Below.refl _ _) _
      have hs6 : W6.heap[w5.heap.size]? = some (.cells #[.int .i64 (g.base : Nat), .int .i64 (g.set.H : Nat), .int .i64 (g.set.P : Nat), .int .i64 (g.set.M : Nat), .int .u32 (g.set.S : Nat), .slice ga g.rows.length gc] 103 (0, 0)) := by rw [← hW6]; exact heap_alloc_new _ _
      have hz6 : W6.heap.size = w5.heap.size + 1 := by rw [← hW6]; simp
      have hzA5 : wr.heap.size + 1 ≤ w5.heap.size := by have h1 := hb5.size; have h2 := HZA.out; omega
      have h15 : Below wr.heap.size wr w5 := bl_trans HBA.out hb5
      have h16 : Below wr.heap.size wr W6 := bl_trans h15 hb6
      have hl6 : W6.heap[wr.heap.size]? = some (.cells #[.int .i64 (n : Nat), .int .i64 (g.rows.length : Nat), .int .u32 (crc (graphB g) : Nat)] 149 (0, 0)) := (hb6.block _ (by omega)).trans ((hb5.block _ (by have := HZA.out; omega)).trans HSA.out)
      have hzr : W2.heap.size ≤ wr.heap.size := HKP.out.size
      have hx6 : W6.heap[w2.heap.size]? = some (.cells #[.pointer (some ⟨dsk, 0, none⟩), .slice xa lks.length xc, .slice ya grs.length yc] 97 (0, 0)) := (h16.block _ (by have := HZ2.out; omega)).trans HI.out.box
      have hnd := List.nodup_cons.1 HI.out.apart
      have hol : ∀ j, (Value.slice xa lks.length xc).ownBlock = some j → j ≠ w2.heap.size ∧ W2.heap.size ≤ j ∧ j < wr.heap.size := fun j e => by
        have h1 := HIf.out j (.inl (xown_lv e))
        have h2 := (HI.out.lv.lt j e).2
        have h4 : j ≠ w2.heap.size := fun e2 => hnd.1 (List.mem_append_left _ (by rw [← e2]; simp [e]))
        omega
      have hog : ∀ j, (Value.slice ya grs.length yc).ownBlock = some j → j ≠ w2.heap.size ∧ W2.heap.size ≤ j ∧ j < wr.heap.size := fun j e => by
        have h1 := HIf.out j (.inl (xown_gv e))
        have h2 := (HI.out.gv.lt j e).2
        have h4 : j ≠ w2.heap.size := fun e2 => hnd.1 (List.mem_append_right _ (by rw [← e2]; simp [e]))
        omega
      have hne : ∀ j, (Value.slice xa lks.length xc).ownBlock = some j → (Value.slice ya grs.length yc).ownBlock ≠ some j := fun j e e2 =>
        (List.nodup_append.1 hnd.2).2.2 j (Option.mem_toList.2 e) j (Option.mem_toList.2 e2) rfl
      have HO := Lib.hid (show OS W6 W6.drew W2.heap.size (.slice xa lks.length xc) (.slice ya grs.length yc) (.slice xa lks.length xc) (.slice ya grs.length yc) lks grs from
        OS.drew ⟨Upd.refl _ _, (HI.out.lv.below h16).raise fun j e => (hol j e).2.1, (HI.out.gv.below h16).raise fun j e => (hog j e).2.1, hne, fun j e => .inl e, fun j e => .inl e⟩)
      have hst6 : ∀ Y, Upd (fun j => (Value.slice xa lks.length xc).ownBlock = some j ∨ (Value.slice ya grs.length yc).ownBlock = some j) W6 Y → ∀ b, b < W6.heap.size → (b = w2.heap.size ∨ wr.heap.size ≤ b) → Y.heap[b]? = W6.heap[b]? := fun Y hY b h1 h2 =>
        hY.block b h1 fun e => by
          rcases e with e | e
          · have := hol b e; omega
          · have := hog b e; omega
      have HCell := Lib.hid (show ∀ Y, Upd (fun j => (Value.slice xa lks.length xc).ownBlock = some j ∨ (Value.slice ya grs.length yc).ownBlock = some j) W6 Y → (Y.cell? ⟨wr.heap.size, 0, none⟩ = some (.int .i64 (n : Nat)) ∧ Y.cell? ⟨wr.heap.size, 1, none⟩ = some (.int .i64 (g.rows.length : Nat)) ∧ Y.cell? ⟨wr.heap.size, 2, none⟩ = some (.int .u32 (crc (graphB g) : Nat)) ∧ Y.cell? ⟨w5.heap.size, 0, none⟩ = some (.int .i64 (g.base : Nat)) ∧ Y.cell? ⟨w5.heap.size, 1, none⟩ = some (.int .i64 (g.set.H : Nat)) ∧ Y.cell? ⟨w5.heap.size, 2, none⟩ = some (.int .i64 (g.set.P : Nat)) ∧ Y.cell? ⟨w5.heap.size, 3, none⟩ = some (.int .i64 (g.set.M : Nat)) ∧ Y.cell? ⟨w5.heap.size, 4, none⟩ = some (.int .u32 (g.set.S : Nat)) ∧ Y.cell? ⟨w5.heap.size, 5, none⟩ = some (.slice ga g.rows.length gc)) ∧ Y.cell? ⟨w2.heap.size, 1, none⟩ = some (.slice xa lks.length xc) ∧ Y.cell? ⟨w2.heap.size, 2, none⟩ = some (.slice ya grs.length yc) from fun Y hY => by
        have q1 := (hst6 Y hY wr.heap.size (by omega) (.inr (Nat.le_refl _))).trans hl6
        have q2 := (hst6 Y hY w5.heap.size (by omega) (.inr (by omega))).trans hs6
        have q3 := (hst6 Y hY w2.heap.size (by have := HZ2.out; omega) (.inl rfl)).trans hx6
        exact ⟨⟨by rw [cell_of_row _ _ _ _ _ _ q1]; rfl, by rw [cell_of_row _ _ _ _ _ _ q1]; rfl, by rw [cell_of_row _ _ _ _ _ _ q1]; rfl, by rw [cell_of_row _ _ _ _ _ _ q2]; rfl, by rw [cell_of_row _ _ _ _ _ _ q2]; rfl, by rw [cell_of_row _ _ _ _ _ _ q2]; rfl, by rw [cell_of_row _ _ _ _ _ _ q2]; rfl, by rw [cell_of_row _ _ _ _ _ _ q2]; rfl, by rw [cell_of_row _ _ _ _ _ _ q2]; rfl⟩, by rw [cell_of_row _ _ _ _ _ _ q3]; rfl, by rw [cell_of_row _ _ _ _ _ _ q3]; rfl⟩)
      have HBX := Lib.hid (show ∀ Y, Upd (fun j => (Value.slice xa lks.length xc).ownBlock = some j ∨ (Value.slice ya grs.length yc).ownBlock = some j) W6 Y → Y.cell? ⟨w2.heap.size, 1, none⟩ = some (.slice xa lks.length xc) ∧ Y.cell? ⟨w2.heap.size, 2, none⟩ = some (.slice ya grs.length yc) ∧ Y.frozen? ⟨w2.heap.size, 1, none⟩ = false ∧ Y.frozen? ⟨w2.heap.size, 2, none⟩ = false from fun Y hY => by
        have q3 := (hst6 Y hY w2.heap.size (by have := HZ2.out; omega) (.inl rfl)).trans hx6
        exact ⟨by rw [cell_of_row _ _ _ _ _ _ q3]; rfl, by rw [cell_of_row _ _ _ _ _ _ q3]; rfl, frozen_of_row _ _ _ _ _ q3, frozen_of_row _ _ _ _ _ q3⟩)
      have HCX := Lib.hid (show ∀ Y, Upd (fun j => (Value.slice xa lks.length xc).ownBlock = some j ∨ (Value.slice ya grs.length yc).ownBlock = some j) W6 Y → ∀ v1 v2 : Value, (fun Y : World => Y.cell? ⟨wr.heap.size, 0, none⟩ = some (.int .i64 (n : Nat)) ∧ Y.cell? ⟨wr.heap.size, 1, none⟩ = some (.int .i64 (g.rows.length : Nat)) ∧ Y.cell? ⟨wr.heap.size, 2, none⟩ = some (.int .u32 (crc (graphB g) : Nat)) ∧ Y.cell? ⟨w5.heap.size, 0, none⟩ = some (.int .i64 (g.base : Nat)) ∧ Y.cell? ⟨w5.heap.size, 1, none⟩ = some (.int .i64 (g.set.H : Nat)) ∧ Y.cell? ⟨w5.heap.size, 2, none⟩ = some (.int .i64 (g.set.P : Nat)) ∧ Y.cell? ⟨w5.heap.size, 3, none⟩ = some (.int .i64 (g.set.M : Nat)) ∧ Y.cell? ⟨w5.heap.size, 4, none⟩ = some (.int .u32 (g.set.S : Nat)) ∧ Y.cell? ⟨w5.heap.size, 5, none⟩ = some (.slice ga g.rows.length gc)) (Y.setCell ⟨w2.heap.size, 1, none⟩ v1) ∧ (fun Y : World => Y.cell? ⟨w2.heap.size, 2, none⟩ = some (.slice ya grs.length yc)) (Y.setCell ⟨w2.heap.size, 1, none⟩ v1) ∧ (fun Y : World => Y.cell? ⟨wr.heap.size, 0, none⟩ = some (.int .i64 (n : Nat)) ∧ Y.cell? ⟨wr.heap.size, 1, none⟩ = some (.int .i64 (g.rows.length : Nat)) ∧ Y.cell? ⟨wr.heap.size, 2, none⟩ = some (.int .u32 (crc (graphB g) : Nat)) ∧ Y.cell? ⟨w5.heap.size, 0, none⟩ = some (.int .i64 (g.base : Nat)) ∧ Y.cell? ⟨w5.heap.size, 1, none⟩ = some (.int .i64 (g.set.H : Nat)) ∧ Y.cell? ⟨w5.heap.size, 2, none⟩ = some (.int .i64 (g.set.P : Nat)) ∧ Y.cell? ⟨w5.heap.size, 3, none⟩ = some (.int .i64 (g.set.M : Nat)) ∧ Y.cell? ⟨w5.heap.size, 4, none⟩ = some (.int .u32 (g.set.S : Nat)) ∧ Y.cell? ⟨w5.heap.size, 5, none⟩ = some (.slice ga g.rows.length gc)) ((Y.setCell ⟨w2.heap.size, 1, none⟩ v1).setCell ⟨w2.heap.size, 2, none⟩ v2) from fun Y hY v1 v2 => by
        have q := HCell.out Y hY
        have q3 := (hst6 Y hY w2.heap.size (by have := HZ2.out; omega) (.inl rfl)).trans hx6
        have u1 := heap_setCell_same Y w2.heap.size 1 _ _ v1 q3
        have k1 : ∀ b o, b ≠ w2.heap.size → (Y.setCell ⟨w2.heap.size, 1, none⟩ v1).cell? ⟨b, o, none⟩ = Y.cell? ⟨b, o, none⟩ := fun b o hb => World.cell?_of_block (heap_setCell_other _ _ _ _ hb)
        have k2 : ∀ b o, b ≠ w2.heap.size → ((Y.setCell ⟨w2.heap.size, 1, none⟩ v1).setCell ⟨w2.heap.size, 2, none⟩ v2).cell? ⟨b, o, none⟩ = Y.cell? ⟨b, o, none⟩ := fun b o hb => (World.cell?_of_block (heap_setCell_other _ _ _ _ hb)).trans (k1 b o hb)
        have n1 : wr.heap.size ≠ w2.heap.size := by have := HZ2.out; omega
        have n2 : w5.heap.size ≠ w2.heap.size := by have := HZ2.out; omega
        obtain ⟨⟨q0, q1, q2, q4, q5, q6, q7, q8, q9⟩, _, _⟩ := q
        refine ⟨⟨(k1 _ _ n1).trans q0, (k1 _ _ n1).trans q1, (k1 _ _ n1).trans q2, (k1 _ _ n2).trans q4, (k1 _ _ n2).trans q5, (k1 _ _ n2).trans q6, (k1 _ _ n2).trans q7, (k1 _ _ n2).trans q8, (k1 _ _ n2).trans q9⟩, ?_, ⟨(k2 _ _ n1).trans q0, (k2 _ _ n1).trans q1, (k2 _ _ n1).trans q2, (k2 _ _ n2).trans q4, (k2 _ _ n2).trans q5, (k2 _ _ n2).trans q6, (k2 _ _ n2).trans q7, (k2 _ _ n2).trans q8, (k2 _ _ n2).trans q9⟩⟩
        show (Y.setCell ⟨w2.heap.size, 1, none⟩ v1).cell? ⟨w2.heap.size, 2, none⟩ = _
        rw [cell_of_row _ _ _ _ _ _ u1]
        rfl)
      have HLT := Lib.hid (show ∀ j, (Value.slice xa lks.length xc).ownBlock = some j → j < wr.heap.size from fun j e => (hol j e).2.2)
      have HZW := Lib.hid (show ∀ Y, Upd (fun j => (Value.slice xa lks.length xc).ownBlock = some j ∨ (Value.slice ya grs.length yc).ownBlock = some j) W6 Y → W2.heap.size ≤ Y.heap.size from fun Y hY => by have := hY.size; omega)
      have HPU := Lib.hid (show ∀ (Y X : World) lv gv, OS W6 Y W2.heap.size (.slice xa lks.length xc) (.slice ya grs.length yc) lv gv (lks ++ [(n, g.rows.length, crc (graphB g))]) (grs ++ [⟨ga, g.rows.length, gc, g⟩]) → X = (Y.setCell ⟨w2.heap.size, 1, none⟩ lv).setCell ⟨w2.heap.size, 2, none⟩ gv → OpenRel w2 W2 X dsk L gs (k + 1) from fun Y X lv gv hO hX => by
        have hIl := HIl.out; have hIg := HIg.out
        refine OpenRel.push (I := ⟨dsk, .slice xa lks.length xc, .slice ya grs.length yc, lks, grs⟩) (e := ⟨ga, g.rows.length, gc, g⟩) (y := (n, g.rows.length, crc (graphB g))) (by have := HZ2.out; omega) HKP.out HI.out rfl HIl.out HIg.out HIf.out h15 (hgr.mono (fun j hj => by have := HZA.out; omega) (fun j hj => hj.2)) hb6 hO hX ?_ ?_
        · show lks ++ [_] = _
          rw [hIl, List.take_succ_eq_append_getElem hlt, HF2.out]
          rfl
        · rw [List.take_succ_eq_append_getElem hkg, HGK.out])
      have HU0 := Lib.hid (show Upd (fun j => (Value.slice xa lks.length xc).ownBlock = some j ∨ (Value.slice ya grs.length yc).ownBlock = some j) W6 W6.drew from (Upd.refl _ _).drew)
      obtain ⟨WD, hWD⟩ : ∃ WD, W6.drew = WD := ⟨_, rfl⟩
      have HWDZ := Lib.hid (show wr.heap.size ≤ WD.heap.size ∧ WD.heap.size = W6.heap.size from by rw [← hWD]; exact ⟨by show wr.heap.size ≤ W6.heap.size; omega, rfl⟩)
      have HW6 := Lib.hid hW6
      clear hst6 hne hog hol hnd hx6 hl6 h16 h15 hzA5 hz6 hs6 hb6 hW6 hgr hb5 hzr e0 e1 e2 d0 d1 d2
      go_wp2_with fail
      rw [HW6.out]
      refine wp_region_L (z := 18) (y := 21) (S1 := fun Y => Y.cell? ⟨wr.heap.size, 0, none⟩ = some (.int .i64 (n : Nat)) ∧ Y.cell? ⟨wr.heap.size, 1, none⟩ = some (.int .i64 (g.rows.length : Nat)) ∧ Y.cell? ⟨wr.heap.size, 2, none⟩ = some (.int .u32 (crc (graphB g) : Nat)) ∧ Y.cell? ⟨w5.heap.size, 0, none⟩ = some (.int .i64 (g.base : Nat)) ∧ Y.cell? ⟨w5.heap.size, 1, none⟩ = some (.int .i64 (g.set.H : Nat)) ∧ Y.cell? ⟨w5.heap.size, 2, none⟩ = some (.int .i64 (g.set.P : Nat)) ∧ Y.cell? ⟨w5.heap.size, 3, none⟩ = some (.int .i64 (g.set.M : Nat)) ∧ Y.cell? ⟨w5.heap.size, 4, none⟩ = some (.int .u32 (g.set.S : Nat)) ∧ Y.cell? ⟨w5.heap.size, 5, none⟩ = some (.slice ga g.rows.length gc)) (S2 := fun Y => Y.cell? ⟨w2.heap.size, 1, none⟩ = some (.slice xa lks.length xc)) (S3 := fun Y => Y.cell? ⟨w2.heap.size, 2, none⟩ = some (.slice ya grs.length yc)) (by kernel_rfl) ?_
      rw [hWD] at HO HU0 ⊢
      clear hWD
      refine wpAnyL_take (T := fun Y => Y.cell? ⟨wr.heap.size, 0, none⟩ = some (.int .i64 (n : Nat)) ∧ Y.cell? ⟨wr.heap.size, 1, none⟩ = some (.int .i64 (g.rows.length : Nat)) ∧ Y.cell? ⟨wr.heap.size, 2, none⟩ = some (.int .u32 (crc (graphB g) : Nat)) ∧ Y.cell? ⟨w5.heap.size, 0, none⟩ = some (.int .i64 (g.base : Nat)) ∧ Y.cell? ⟨w5.heap.size, 1, none⟩ = some (.int .i64 (g.set.H : Nat)) ∧ Y.cell? ⟨w5.heap.size, 2, none⟩ = some (.int .i64 (g.set.P : Nat)) ∧ Y.cell? ⟨w5.heap.size, 3, none⟩ = some (.int .i64 (g.set.M : Nat)) ∧ Y.cell? ⟨w5.heap.size, 4, none⟩ = some (.int .u32 (g.set.S : Nat)) ∧ Y.cell? ⟨w5.heap.size, 5, none⟩ = some (.slice ga g.rows.length gc)) (i := 0) (oi := ⟨some 52, _, _, _, _, _⟩) (v := ?_) rfl (by decide) (by decide) (by kernel_rfl) (by kernel_rfl) (by kernel_rfl) (fun _ _ _ h => h) (.inl fun _ h => h) (Or.inl ⟨by rfl, ?hy100⟩) ⟨(HCell.out _ HU0.out).1, fun _ => (HCell.out _ HU0.out).2.1, fun _ => (HCell.out _ HU0.out).2.2⟩ ?hr100
      case hy100 => (intro w' hSw; (try dsimp only at hSw); go_simp <;> (with_reducible rfl))
      (try simp only [Act.put, List.setIfInBounds_toArray, List.set_cons_zero, List.set_cons_succ])
      refine wpAnyL_take (T := fun Y => Y.cell? ⟨wr.heap.size, 0, none⟩ = some (.int .i64 (n : Nat)) ∧ Y.cell? ⟨wr.heap.size, 1, none⟩ = some (.int .i64 (g.rows.length : Nat)) ∧ Y.cell? ⟨wr.heap.size, 2, none⟩ = some (.int .u32 (crc (graphB g) : Nat)) ∧ Y.cell? ⟨w5.heap.size, 0, none⟩ = some (.int .i64 (g.base : Nat)) ∧ Y.cell? ⟨w5.heap.size, 1, none⟩ = some (.int .i64 (g.set.H : Nat)) ∧ Y.cell? ⟨w5.heap.size, 2, none⟩ = some (.int .i64 (g.set.P : Nat)) ∧ Y.cell? ⟨w5.heap.size, 3, none⟩ = some (.int .i64 (g.set.M : Nat)) ∧ Y.cell? ⟨w5.heap.size, 4, none⟩ = some (.int .u32 (g.set.S : Nat)) ∧ Y.cell? ⟨w5.heap.size, 5, none⟩ = some (.slice ga g.rows.length gc)) (i := 1) (oi := ⟨some 53, _, _, _, _, _⟩) (v := ?_) rfl (by decide) (by decide) (by kernel_rfl) (by kernel_rfl) (by kernel_rfl) (fun _ _ _ h => h) (.inl fun _ h => h) (Or.inl ⟨by rfl, ?hy201⟩) ⟨(HCell.out _ HU0.out).1, fun _ => (HCell.out _ HU0.out).2.1, fun _ => (HCell.out _ HU0.out).2.2⟩ ?hr201
      case hy201 => (intro w' hSw; (try dsimp only at hSw); go_simp <;> (with_reducible rfl))
      (try simp only [Act.put, List.setIfInBounds_toArray, List.set_cons_zero, List.set_cons_succ])
      refine wpAnyL_take (T := fun Y => Y.cell? ⟨wr.heap.size, 0, none⟩ = some (.int .i64 (n : Nat)) ∧ Y.cell? ⟨wr.heap.size, 1, none⟩ = some (.int .i64 (g.rows.length : Nat)) ∧ Y.cell? ⟨wr.heap.size, 2, none⟩ = some (.int .u32 (crc (graphB g) : Nat)) ∧ Y.cell? ⟨w5.heap.size, 0, none⟩ = some (.int .i64 (g.base : Nat)) ∧ Y.cell? ⟨w5.heap.size, 1, none⟩ = some (.int .i64 (g.set.H : Nat)) ∧ Y.cell? ⟨w5.heap.size, 2, none⟩ = some (.int .i64 (g.set.P : Nat)) ∧ Y.cell? ⟨w5.heap.size, 3, none⟩ = some (.int .i64 (g.set.M : Nat)) ∧ Y.cell? ⟨w5.heap.size, 4, none⟩ = some (.int .u32 (g.set.S : Nat)) ∧ Y.cell? ⟨w5.heap.size, 5, none⟩ = some (.slice ga g.rows.length gc)) (i := 2) (oi := ⟨some 54, _, _, _, _, _⟩) (v := ?_) rfl (by decide) (by decide) (by kernel_rfl) (by kernel_rfl) (by kernel_rfl) (fun _ _ _ h => h) (.inl fun _ h => h) (Or.inl ⟨by rfl, ?hy302⟩) ⟨(HCell.out _ HU0.out).1, fun _ => (HCell.out _ HU0.out).2.1, fun _ => (HCell.out _ HU0.out).2.2⟩ ?hr302
      case hy302 => (intro w' hSw; (try dsimp only at hSw); go_simp <;> (with_reducible rfl))
      (try simp only [Act.put, List.setIfInBounds_toArray, List.set_cons_zero, List.set_cons_succ])
      refine wpAnyL_take (T := fun Y => Y.cell? ⟨wr.heap.size, 0, none⟩ = some (.int .i64 (n : Nat)) ∧ Y.cell? ⟨wr.heap.size, 1, none⟩ = some (.int .i64 (g.rows.length : Nat)) ∧ Y.cell? ⟨wr.heap.size, 2, none⟩ = some (.int .u32 (crc (graphB g) : Nat)) ∧ Y.cell? ⟨w5.heap.size, 0, none⟩ = some (.int .i64 (g.base : Nat)) ∧ Y.cell? ⟨w5.heap.size, 1, none⟩ = some (.int .i64 (g.set.H : Nat)) ∧ Y.cell? ⟨w5.heap.size, 2, none⟩ = some (.int .i64 (g.set.P : Nat)) ∧ Y.cell? ⟨w5.heap.size, 3, none⟩ = some (.int .i64 (g.set.M : Nat)) ∧ Y.cell? ⟨w5.heap.size, 4, none⟩ = some (.int .u32 (g.set.S : Nat)) ∧ Y.cell? ⟨w5.heap.size, 5, none⟩ = some (.slice ga g.rows.length gc)) (i := 3) (oi := ⟨some 55, _, _, _, _, _⟩) (v := ?_) rfl (by decide) (by decide) (by kernel_rfl) (by kernel_rfl) (by kernel_rfl) (fun _ _ _ h => h) (.inl fun _ h => h) (Or.inl ⟨by rfl, ?hy403⟩) ⟨(HCell.out _ HU0.out).1, fun _ => (HCell.out _ HU0.out).2.1, fun _ => (HCell.out _ HU0.out).2.2⟩ ?hr403
      case hy403 => (intro w' hSw; (try dsimp only at hSw); go_simp <;> (with_reducible rfl))
      (try simp only [Act.put, List.setIfInBounds_toArray, List.set_cons_zero, List.set_cons_succ])
      refine wpAnyL_take (T := fun Y => Y.cell? ⟨wr.heap.size, 0, none⟩ = some (.int .i64 (n : Nat)) ∧ Y.cell? ⟨wr.heap.size, 1, none⟩ = some (.int .i64 (g.rows.length : Nat)) ∧ Y.cell? ⟨wr.heap.size, 2, none⟩ = some (.int .u32 (crc (graphB g) : Nat)) ∧ Y.cell? ⟨w5.heap.size, 0, none⟩ = some (.int .i64 (g.base : Nat)) ∧ Y.cell? ⟨w5.heap.size, 1, none⟩ = some (.int .i64 (g.set.H : Nat)) ∧ Y.cell? ⟨w5.heap.size, 2, none⟩ = some (.int .i64 (g.set.P : Nat)) ∧ Y.cell? ⟨w5.heap.size, 3, none⟩ = some (.int .i64 (g.set.M : Nat)) ∧ Y.cell? ⟨w5.heap.size, 4, none⟩ = some (.int .u32 (g.set.S : Nat)) ∧ Y.cell? ⟨w5.heap.size, 5, none⟩ = some (.slice ga g.rows.length gc)) (i := 4) (oi := ⟨some 56, _, _, _, _, _⟩) (v := ?_) rfl (by decide) (by decide) (by kernel_rfl) (by kernel_rfl) (by kernel_rfl) (fun _ _ _ h => h) (.inl fun _ h => h) (Or.inl ⟨by rfl, ?hy504⟩) ⟨(HCell.out _ HU0.out).1, fun _ => (HCell.out _ HU0.out).2.1, fun _ => (HCell.out _ HU0.out).2.2⟩ ?hr504
      case hy504 => (intro w' hSw; (try dsimp only at hSw); go_simp <;> (with_reducible rfl))
      (try simp only [Act.put, List.setIfInBounds_toArray, List.set_cons_zero, List.set_cons_succ])
      refine wpAnyL_take (T := fun Y => Y.cell? ⟨w2.heap.size, 1, none⟩ = some (.slice xa lks.length xc)) (i := 5) (oi := ⟨some 57, _, _, _, _, _⟩) (v := ?_) rfl (by decide) (by decide) (by kernel_rfl) (by kernel_rfl) (by kernel_rfl) (fun _ _ _ h => h) (.inr (.inl ⟨.of (by kernel_rfl), fun _ _ h => h⟩)) (Or.inl ⟨by rfl, ?hy605⟩) ⟨(HCell.out _ HU0.out).1, fun _ => (HCell.out _ HU0.out).2.1, fun _ => (HCell.out _ HU0.out).2.2⟩ ?hr605
      case hy605 => (intro w' hSw; (try dsimp only at hSw); go_simp <;> (with_reducible rfl))
      (try simp only [Act.put, List.setIfInBounds_toArray, List.set_cons_zero, List.set_cons_succ])
      refine wpAnyL_take (T := fun Y => Y.cell? ⟨wr.heap.size, 0, none⟩ = some (.int .i64 (n : Nat)) ∧ Y.cell? ⟨wr.heap.size, 1, none⟩ = some (.int .i64 (g.rows.length : Nat)) ∧ Y.cell? ⟨wr.heap.size, 2, none⟩ = some (.int .u32 (crc (graphB g) : Nat)) ∧ Y.cell? ⟨w5.heap.size, 0, none⟩ = some (.int .i64 (g.base : Nat)) ∧ Y.cell? ⟨w5.heap.size, 1, none⟩ = some (.int .i64 (g.set.H : Nat)) ∧ Y.cell? ⟨w5.heap.size, 2, none⟩ = some (.int .i64 (g.set.P : Nat)) ∧ Y.cell? ⟨w5.heap.size, 3, none⟩ = some (.int .i64 (g.set.M : Nat)) ∧ Y.cell? ⟨w5.heap.size, 4, none⟩ = some (.int .u32 (g.set.S : Nat)) ∧ Y.cell? ⟨w5.heap.size, 5, none⟩ = some (.slice ga g.rows.length gc)) (i := 6) (oi := ⟨some 58, _, _, _, _, _⟩) (v := ?_) rfl (by decide) (by decide) (by kernel_rfl) (by kernel_rfl) (by kernel_rfl) (fun _ _ _ h => h) (.inl fun _ h => h) (Or.inl ⟨by rfl, ?hy706⟩) ⟨(HCell.out _ HU0.out).1, fun _ => (HCell.out _ HU0.out).2.1, fun _ => (HCell.out _ HU0.out).2.2⟩ ?hr706
      case hy706 => (intro w' hSw; (try dsimp only at hSw); go_simp <;> (with_reducible rfl))
      (try simp only [Act.put, List.setIfInBounds_toArray, List.set_cons_zero, List.set_cons_succ])
      refine wpAnyL_take (T := fun Y => Y.cell? ⟨wr.heap.size, 0, none⟩ = some (.int .i64 (n : Nat)) ∧ Y.cell? ⟨wr.heap.size, 1, none⟩ = some (.int .i64 (g.rows.length : Nat)) ∧ Y.cell? ⟨wr.heap.size, 2, none⟩ = some (.int .u32 (crc (graphB g) : Nat)) ∧ Y.cell? ⟨w5.heap.size, 0, none⟩ = some (.int .i64 (g.base : Nat)) ∧ Y.cell? ⟨w5.heap.size, 1, none⟩ = some (.int .i64 (g.set.H : Nat)) ∧ Y.cell? ⟨w5.heap.size, 2, none⟩ = some (.int .i64 (g.set.P : Nat)) ∧ Y.cell? ⟨w5.heap.size, 3, none⟩ = some (.int .i64 (g.set.M : Nat)) ∧ Y.cell? ⟨w5.heap.size, 4, none⟩ = some (.int .u32 (g.set.S : Nat)) ∧ Y.cell? ⟨w5.heap.size, 5, none⟩ = some (.slice ga g.rows.length gc)) (i := 9) (oi := ⟨some 61, _, _, _, _, _⟩) (v := ?_) rfl (by decide) (by decide) (by kernel_rfl) (by kernel_rfl) (by kernel_rfl) (fun _ _ _ h => h) (.inl fun _ h => h) (Or.inl ⟨by rfl, ?hy809⟩) ⟨(HCell.out _ HU0.out).1, fun _ => (HCell.out _ HU0.out).2.1, fun _ => (HCell.out _ HU0.out).2.2⟩ ?hr809
      case hy809 => (intro w' hSw; (try dsimp only at hSw); go_simp <;> (with_reducible rfl))
      (try simp only [Act.put, List.setIfInBounds_toArray, List.set_cons_zero, List.set_cons_succ])
      refine wpAnyL_take (T := fun Y => Y.cell? ⟨wr.heap.size, 0, none⟩ = some (.int .i64 (n : Nat)) ∧ Y.cell? ⟨wr.heap.size, 1, none⟩ = some (.int .i64 (g.rows.length : Nat)) ∧ Y.cell? ⟨wr.heap.size, 2, none⟩ = some (.int .u32 (crc (graphB g) : Nat)) ∧ Y.cell? ⟨w5.heap.size, 0, none⟩ = some (.int .i64 (g.base : Nat)) ∧ Y.cell? ⟨w5.heap.size, 1, none⟩ = some (.int .i64 (g.set.H : Nat)) ∧ Y.cell? ⟨w5.heap.size, 2, none⟩ = some (.int .i64 (g.set.P : Nat)) ∧ Y.cell? ⟨w5.heap.size, 3, none⟩ = some (.int .i64 (g.set.M : Nat)) ∧ Y.cell? ⟨w5.heap.size, 4, none⟩ = some (.int .u32 (g.set.S : Nat)) ∧ Y.cell? ⟨w5.heap.size, 5, none⟩ = some (.slice ga g.rows.length gc)) (i := 10) (oi := ⟨some 62, _, _, _, _, _⟩) (v := ?_) rfl (by decide) (by decide) (by kernel_rfl) (by kernel_rfl) (by kernel_rfl) (fun _ _ _ h => h) (.inl fun _ h => h) (Or.inl ⟨by rfl, ?hy910⟩) ⟨(HCell.out _ HU0.out).1, fun _ => (HCell.out _ HU0.out).2.1, fun _ => (HCell.out _ HU0.out).2.2⟩ ?hr910
      case hy910 => (intro w' hSw; (try dsimp only at hSw); go_simp <;> (with_reducible rfl))
      (try simp only [Act.put, List.setIfInBounds_toArray, List.set_cons_zero, List.set_cons_succ])
      refine wpAnyL_take (T := fun Y => Y.cell? ⟨wr.heap.size, 0, none⟩ = some (.int .i64 (n : Nat)) ∧ Y.cell? ⟨wr.heap.size, 1, none⟩ = some (.int .i64 (g.rows.length : Nat)) ∧ Y.cell? ⟨wr.heap.size, 2, none⟩ = some (.int .u32 (crc (graphB g) : Nat)) ∧ Y.cell? ⟨w5.heap.size, 0, none⟩ = some (.int .i64 (g.base : Nat)) ∧ Y.cell? ⟨w5.heap.size, 1, none⟩ = some (.int .i64 (g.set.H : Nat)) ∧ Y.cell? ⟨w5.heap.size, 2, none⟩ = some (.int .i64 (g.set.P : Nat)) ∧ Y.cell? ⟨w5.heap.size, 3, none⟩ = some (.int .i64 (g.set.M : Nat)) ∧ Y.cell? ⟨w5.heap.size, 4, none⟩ = some (.int .u32 (g.set.S : Nat)) ∧ Y.cell? ⟨w5.heap.size, 5, none⟩ = some (.slice ga g.rows.length gc)) (i := 11) (oi := ⟨some 63, _, _, _, _, _⟩) (v := ?_) rfl (by decide) (by decide) (by kernel_rfl) (by kernel_rfl) (by kernel_rfl) (fun _ _ _ h => h) (.inl fun _ h => h) (Or.inl ⟨by rfl, ?hy1011⟩) ⟨(HCell.out _ HU0.out).1, fun _ => (HCell.out _ HU0.out).2.1, fun _ => (HCell.out _ HU0.out).2.2⟩ ?hr1011
      case hy1011 => (intro w' hSw; (try dsimp only at hSw); go_simp <;> (with_reducible rfl))
      (try simp only [Act.put, List.setIfInBounds_toArray, List.set_cons_zero, List.set_cons_succ])
      refine wpAnyL_take (T := fun Y => Y.cell? ⟨w2.heap.size, 2, none⟩ = some (.slice ya grs.length yc)) (i := 12) (oi := ⟨some 64, _, _, _, _, _⟩) (v := ?_) rfl (by decide) (by decide) (by kernel_rfl) (by kernel_rfl) (by kernel_rfl) (fun _ _ _ h => h) (.inr (.inr ⟨.of (by kernel_rfl), fun _ _ h => h⟩)) (Or.inl ⟨by rfl, ?hy1112⟩) ⟨(HCell.out _ HU0.out).1, fun _ => (HCell.out _ HU0.out).2.1, fun _ => (HCell.out _ HU0.out).2.2⟩ ?hr1112
      case hy1112 => (intro w' hSw; (try dsimp only at hSw); go_simp <;> (with_reducible rfl))
      (try simp only [Act.put, List.setIfInBounds_toArray, List.set_cons_zero, List.set_cons_succ])
      refine wpAnyL_take (T := fun Y => Y.cell? ⟨wr.heap.size, 0, none⟩ = some (.int .i64 (n : Nat)) ∧ Y.cell? ⟨wr.heap.size, 1, none⟩ = some (.int .i64 (g.rows.length : Nat)) ∧ Y.cell? ⟨wr.heap.size, 2, none⟩ = some (.int .u32 (crc (graphB g) : Nat)) ∧ Y.cell? ⟨w5.heap.size, 0, none⟩ = some (.int .i64 (g.base : Nat)) ∧ Y.cell? ⟨w5.heap.size, 1, none⟩ = some (.int .i64 (g.set.H : Nat)) ∧ Y.cell? ⟨w5.heap.size, 2, none⟩ = some (.int .i64 (g.set.P : Nat)) ∧ Y.cell? ⟨w5.heap.size, 3, none⟩ = some (.int .i64 (g.set.M : Nat)) ∧ Y.cell? ⟨w5.heap.size, 4, none⟩ = some (.int .u32 (g.set.S : Nat)) ∧ Y.cell? ⟨w5.heap.size, 5, none⟩ = some (.slice ga g.rows.length gc)) (i := 13) (oi := ⟨some 65, _, _, _, _, _⟩) (v := ?_) rfl (by decide) (by decide) (by kernel_rfl) (by kernel_rfl) (by kernel_rfl) (fun _ _ _ h => h) (.inl fun _ h => h) (Or.inl ⟨by rfl, ?hy1213⟩) ⟨(HCell.out _ HU0.out).1, fun _ => (HCell.out _ HU0.out).2.1, fun _ => (HCell.out _ HU0.out).2.2⟩ ?hr1213
      case hy1213 => (intro w' hSw; (try dsimp only at hSw); go_simp <;> (with_reducible rfl))
      (try simp only [Act.put, List.setIfInBounds_toArray, List.set_cons_zero, List.set_cons_succ])
      refine wpAnyL_ready (rs := [7, 14]) (by kernel_rfl) (by simp) (.cons (o := ⟨some 59, _, _, _, _, _⟩) rfl (fun K hK => ?_) (.cons (o := ⟨some 66, _, _, _, _, _⟩) rfl (fun K hK => ?_) .nil))
      · have HO := HO
        go_simp
        obtain ⟨V1, hnx⟩ : ∃ V, WD.alloc (.cells #[.int .i64 (n : Nat), .int .i64 (g.rows.length : Nat), .int .u32 (crc (graphB g) : Nat)] 149) = V := ⟨_, rfl⟩
        have HO := Lib.hid (show OS W6 V1 W2.heap.size (.slice xa lks.length xc) (.slice ya grs.length yc) (.slice xa lks.length xc) (.slice ya grs.length yc) lks grs from by rw [← hnx]; exact HO.out.alloc _)
        have HZV1 := Lib.hid (show wr.heap.size ≤ V1.heap.size from by have h1 := HO.out.upd.size; have h2 := HWDZ.out; omega)
        have HS7 := Lib.hid (show SrcAt V1 WD.heap.size [.int .i64 (n : Nat), .int .i64 (g.rows.length : Nat), .int .u32 (crc (graphB g) : Nat)] from by rw [← hnx]; exact SrcAt.new WD [.int .i64 (n : Nat), .int .i64 (g.rows.length : Nat), .int .u32 (crc (graphB g) : Nat)] 149)
        rw [hnx]
        clear hnx
        refine hK.out _ _ ⟨(HCell.out _ HO.out.upd).1, fun _ => (HCell.out _ HO.out.upd).2.1, fun _ => (HCell.out _ HO.out.upd).2.2⟩ ?_
        clear hK K
        (try simp only [Act.put, List.setIfInBounds_toArray, List.set_cons_zero, List.set_cons_succ])
        refine wpAnyL_ready (rs := [8, 14]) (by kernel_rfl) (by simp) (.cons (o := ⟨some 60, _, _, _, _, _⟩) rfl (fun K hK => ?_) (.cons (o := ⟨some 66, _, _, _, _, _⟩) rfl (fun K hK => ?_) .nil))
        · have HO := HO
          refine step_append_lies _ rfl (.tmp 57) (.tmp 59) 94 rfl W2.heap.size 149 i0 (.agg #[.int .i64 0, .int .i64 0, .int .u32 0]) 3 24 Tryz.underlying94 hi hz0 hz1 hz2 rfl (by decide) (.slice xa lks.length xc) lks.length (lks.flatMap linkV) rfl HO.out.l _ 1 1 [.int .i64 (n : Nat), .int .i64 (g.rows.length : Nat), .int .u32 (crc (graphB g) : Nat)] rfl rfl HS7.out.2 (link_oneX _ _ _) (by decide) (by unfold maxLen; omega) (by omega) (HZW.out _ HO.out.upd) _ rfl ?_
          intro gg cp V2 hown hg hat hlt
          have HO := Lib.hid (HO.out.pushL (y := (n, g.rows.length, crc (graphB g))) hown hg hat)
          clear hown hg hat hlt
          refine hK.out _ _ ⟨(HCell.out _ HO.out.upd).1, fun _ => (HCell.out _ HO.out.upd).2.1, fun _ => (HCell.out _ HO.out.upd).2.2⟩ ?_
          clear hK K
          (try simp only [Act.put, List.setIfInBounds_toArray, List.set_cons_zero, List.set_cons_succ])
          refine wpAnyL_one (i := 14) (o := ⟨some 66, _, _, _, _, _⟩) (by kernel_rfl) rfl (fun K hK => ?_)
          go_simp
          obtain ⟨V3, hnx⟩ : ∃ V, V2.alloc (.cells #[.int .i64 (g.base : Nat), .int .i64 (g.set.H : Nat), .int .i64 (g.set.P : Nat), .int .i64 (g.set.M : Nat), .int .u32 (g.set.S : Nat), .slice ga g.rows.length gc] 103) = V := ⟨_, rfl⟩
          have HO := Lib.hid (show OS W6 V3 W2.heap.size (.slice xa lks.length xc) (.slice ya grs.length yc) (.slice (some ⟨gg, 0, none⟩) (lks.length + 1) cp) (.slice ya grs.length yc) (lks ++ [(n, g.rows.length, crc (graphB g))]) grs from by rw [← hnx]; exact HO.out.alloc _)
          have HZV3 := Lib.hid (show wr.heap.size ≤ V3.heap.size from by have h1 := HO.out.upd.size; have h2 := HWDZ.out; omega)
          have HS14 := Lib.hid (show SrcAt V3 V2.heap.size [.int .i64 (g.base : Nat), .int .i64 (g.set.H : Nat), .int .i64 (g.set.P : Nat), .int .i64 (g.set.M : Nat), .int .u32 (g.set.S : Nat), .slice ga g.rows.length gc] from by rw [← hnx]; exact SrcAt.new V2 [.int .i64 (g.base : Nat), .int .i64 (g.set.H : Nat), .int .i64 (g.set.P : Nat), .int .i64 (g.set.M : Nat), .int .u32 (g.set.S : Nat), .slice ga g.rows.length gc] 103)
          rw [hnx]
          clear hnx
          refine hK.out _ _ ⟨(HCell.out _ HO.out.upd).1, fun _ => (HCell.out _ HO.out.upd).2.1, fun _ => (HCell.out _ HO.out.upd).2.2⟩ ?_
          clear hK K
          (try simp only [Act.put, List.setIfInBounds_toArray, List.set_cons_zero, List.set_cons_succ])
          refine wpAnyL_one (i := 15) (o := ⟨some 67, _, _, _, _, _⟩) (by kernel_rfl) rfl (fun K hK => ?_)
          refine step_append_lies _ rfl (.tmp 64) (.tmp 66) 95 rfl W2.heap.size 103 j0 (.agg #[.int .i64 0, .int .i64 0, .int .i64 0, .int .i64 0, .int .u32 0, .slice none 0 0]) 6 64 Tryz.underlying95 hj hj0 hj1 hj2 rfl (by decide) (.slice ya grs.length yc) grs.length (grs.flatMap graphC) rfl HO.out.g _ 1 1 [.int .i64 (g.base : Nat), .int .i64 (g.set.H : Nat), .int .i64 (g.set.P : Nat), .int .i64 (g.set.M : Nat), .int .u32 (g.set.S : Nat), .slice ga g.rows.length gc] rfl rfl HS14.out.2 (one_gr ⟨ga, g.rows.length, gc, g⟩) (by decide) (by unfold maxLen; omega) (by omega) (HZW.out _ HO.out.upd) _ rfl ?_
          intro hh dp V4 hown hg hat hlt
          have HO := Lib.hid (HO.out.pushG (y := ⟨ga, g.rows.length, gc, g⟩) hown hg hat)
          clear hown hg hat hlt
          refine hK.out _ _ ⟨(HCell.out _ HO.out.upd).1, fun _ => (HCell.out _ HO.out.upd).2.1, fun _ => (HCell.out _ HO.out.upd).2.2⟩ ?_
          clear hK K
          (try simp only [Act.put, List.setIfInBounds_toArray, List.set_cons_zero, List.set_cons_succ])
          refine wpAnyL_take (T := fun Y => Y.cell? ⟨wr.heap.size, 0, none⟩ = some (.int .i64 (n : Nat)) ∧ Y.cell? ⟨wr.heap.size, 1, none⟩ = some (.int .i64 (g.rows.length : Nat)) ∧ Y.cell? ⟨wr.heap.size, 2, none⟩ = some (.int .u32 (crc (graphB g) : Nat)) ∧ Y.cell? ⟨w5.heap.size, 0, none⟩ = some (.int .i64 (g.base : Nat)) ∧ Y.cell? ⟨w5.heap.size, 1, none⟩ = some (.int .i64 (g.set.H : Nat)) ∧ Y.cell? ⟨w5.heap.size, 2, none⟩ = some (.int .i64 (g.set.P : Nat)) ∧ Y.cell? ⟨w5.heap.size, 3, none⟩ = some (.int .i64 (g.set.M : Nat)) ∧ Y.cell? ⟨w5.heap.size, 4, none⟩ = some (.int .u32 (g.set.S : Nat)) ∧ Y.cell? ⟨w5.heap.size, 5, none⟩ = some (.slice ga g.rows.length gc)) (i := 16) (oi := ⟨some 68, _, _, _, _, _⟩) (v := ?_) rfl (by decide) (by decide) (by kernel_rfl) (by kernel_rfl) (by kernel_rfl) (fun _ _ _ h => h) (.inl fun _ h => h) (Or.inl ⟨by rfl, ?hy1316⟩) ⟨(HCell.out _ HO.out.upd).1, fun _ => (HCell.out _ HO.out.upd).2.1, fun _ => (HCell.out _ HO.out.upd).2.2⟩ ?hr1316
          case hy1316 => (intro w' hSw; (try dsimp only at hSw); go_simp <;> (with_reducible rfl))
          (try simp only [Act.put, List.setIfInBounds_toArray, List.set_cons_zero, List.set_cons_succ])
          refine wpAnyL_take (T := fun Y => Y.cell? ⟨wr.heap.size, 0, none⟩ = some (.int .i64 (n : Nat)) ∧ Y.cell? ⟨wr.heap.size, 1, none⟩ = some (.int .i64 (g.rows.length : Nat)) ∧ Y.cell? ⟨wr.heap.size, 2, none⟩ = some (.int .u32 (crc (graphB g) : Nat)) ∧ Y.cell? ⟨w5.heap.size, 0, none⟩ = some (.int .i64 (g.base : Nat)) ∧ Y.cell? ⟨w5.heap.size, 1, none⟩ = some (.int .i64 (g.set.H : Nat)) ∧ Y.cell? ⟨w5.heap.size, 2, none⟩ = some (.int .i64 (g.set.P : Nat)) ∧ Y.cell? ⟨w5.heap.size, 3, none⟩ = some (.int .i64 (g.set.M : Nat)) ∧ Y.cell? ⟨w5.heap.size, 4, none⟩ = some (.int .u32 (g.set.S : Nat)) ∧ Y.cell? ⟨w5.heap.size, 5, none⟩ = some (.slice ga g.rows.length gc)) (i := 17) (oi := ⟨some 69, _, _, _, _, _⟩) (v := ?_) rfl (by decide) (by decide) (by kernel_rfl) (by kernel_rfl) (by kernel_rfl) (fun _ _ _ h => h) (.inl fun _ h => h) (Or.inl ⟨by rfl, ?hy1417⟩) ⟨(HCell.out _ HO.out.upd).1, fun _ => (HCell.out _ HO.out.upd).2.1, fun _ => (HCell.out _ HO.out.upd).2.2⟩ ?hr1417
          case hy1417 => (intro w' hSw; (try dsimp only at hSw); go_simp <;> (with_reducible rfl))
          (try simp only [Act.put, List.setIfInBounds_toArray, List.set_cons_zero, List.set_cons_succ])
          obtain ⟨y1, y2, f1, f2⟩ := HBX.out _ HO.out.upd
          refine wpAnyL_one (i := 18) (o := ⟨none, _, _, _, _, _⟩) (by kernel_rfl) rfl (fun K hK => ?_)
          go_simp
          refine hK.out _ _ ⟨(HCX.out _ HO.out.upd _ (.bool true)).1, fun h => Bool.noConfusion h, fun _ => (HCX.out _ HO.out.upd _ (.bool true)).2.1⟩ ?_
          clear hK K
          (try simp only [Act.put, List.setIfInBounds_toArray, List.set_cons_zero, List.set_cons_succ])
          refine wpAnyL_take (T := fun Y => Y.cell? ⟨wr.heap.size, 0, none⟩ = some (.int .i64 (n : Nat)) ∧ Y.cell? ⟨wr.heap.size, 1, none⟩ = some (.int .i64 (g.rows.length : Nat)) ∧ Y.cell? ⟨wr.heap.size, 2, none⟩ = some (.int .u32 (crc (graphB g) : Nat)) ∧ Y.cell? ⟨w5.heap.size, 0, none⟩ = some (.int .i64 (g.base : Nat)) ∧ Y.cell? ⟨w5.heap.size, 1, none⟩ = some (.int .i64 (g.set.H : Nat)) ∧ Y.cell? ⟨w5.heap.size, 2, none⟩ = some (.int .i64 (g.set.P : Nat)) ∧ Y.cell? ⟨w5.heap.size, 3, none⟩ = some (.int .i64 (g.set.M : Nat)) ∧ Y.cell? ⟨w5.heap.size, 4, none⟩ = some (.int .u32 (g.set.S : Nat)) ∧ Y.cell? ⟨w5.heap.size, 5, none⟩ = some (.slice ga g.rows.length gc)) (i := 19) (oi := ⟨some 70, _, _, _, _, _⟩) (v := ?_) rfl (by decide) (by decide) (by kernel_rfl) (by kernel_rfl) (by kernel_rfl) (fun _ _ _ h => h) (.inl fun _ h => h) (Or.inl ⟨by rfl, ?hy1519⟩) ⟨(HCX.out _ HO.out.upd _ (.bool true)).1, fun h => Bool.noConfusion h, fun _ => (HCX.out _ HO.out.upd _ (.bool true)).2.1⟩ ?hr1519
          case hy1519 => (intro w' hSw; (try dsimp only at hSw); go_simp <;> (with_reducible rfl))
          (try simp only [Act.put, List.setIfInBounds_toArray, List.set_cons_zero, List.set_cons_succ])
          refine wpAnyL_take (T := fun Y => Y.cell? ⟨wr.heap.size, 0, none⟩ = some (.int .i64 (n : Nat)) ∧ Y.cell? ⟨wr.heap.size, 1, none⟩ = some (.int .i64 (g.rows.length : Nat)) ∧ Y.cell? ⟨wr.heap.size, 2, none⟩ = some (.int .u32 (crc (graphB g) : Nat)) ∧ Y.cell? ⟨w5.heap.size, 0, none⟩ = some (.int .i64 (g.base : Nat)) ∧ Y.cell? ⟨w5.heap.size, 1, none⟩ = some (.int .i64 (g.set.H : Nat)) ∧ Y.cell? ⟨w5.heap.size, 2, none⟩ = some (.int .i64 (g.set.P : Nat)) ∧ Y.cell? ⟨w5.heap.size, 3, none⟩ = some (.int .i64 (g.set.M : Nat)) ∧ Y.cell? ⟨w5.heap.size, 4, none⟩ = some (.int .u32 (g.set.S : Nat)) ∧ Y.cell? ⟨w5.heap.size, 5, none⟩ = some (.slice ga g.rows.length gc)) (i := 20) (oi := ⟨some 71, _, _, _, _, _⟩) (v := ?_) rfl (by decide) (by decide) (by kernel_rfl) (by kernel_rfl) (by kernel_rfl) (fun _ _ _ h => h) (.inl fun _ h => h) (Or.inl ⟨by rfl, ?hy1620⟩) ⟨(HCX.out _ HO.out.upd _ (.bool true)).1, fun h => Bool.noConfusion h, fun _ => (HCX.out _ HO.out.upd _ (.bool true)).2.1⟩ ?hr1620
          case hy1620 => (intro w' hSw; (try dsimp only at hSw); go_simp <;> (with_reducible rfl))
          (try simp only [Act.put, List.setIfInBounds_toArray, List.set_cons_zero, List.set_cons_succ])
          refine wpAnyL_one (i := 21) (o := ⟨none, _, _, _, _, _⟩) (by kernel_rfl) rfl (fun K hK => ?_)
          go_simp
          refine hK.out _ _ ⟨(HCX.out _ HO.out.upd _ _).2.2, fun h => Bool.noConfusion h, fun h => Bool.noConfusion h⟩ ?_
          clear hK K
          (try simp only [Act.put, List.setIfInBounds_toArray, List.set_cons_zero, List.set_cons_succ])
          refine wpAnyL_done (by kernel_rfl) ?_ _
          have HEND := Lib.hid (HPU.out _ _ _ _ HO.out rfl)
          clear y1 y2 f1 f2
          go_wp2
          go_roundw
          case rel => exact ⟨k + 1, by omega, by go_num, HEND.out⟩
          case measure => simp [intOf]; omega
        · have HO := HO
          go_simp
          obtain ⟨V2, hnx⟩ : ∃ V, V1.alloc (.cells #[.int .i64 (g.base : Nat), .int .i64 (g.set.H : Nat), .int .i64 (g.set.P : Nat), .int .i64 (g.set.M : Nat), .int .u32 (g.set.S : Nat), .slice ga g.rows.length gc] 103) = V := ⟨_, rfl⟩
          have HO := Lib.hid (show OS W6 V2 W2.heap.size (.slice xa lks.length xc) (.slice ya grs.length yc) (.slice xa lks.length xc) (.slice ya grs.length yc) lks grs from by rw [← hnx]; exact HO.out.alloc _)
          have HZV2 := Lib.hid (show wr.heap.size ≤ V2.heap.size from by have h1 := HO.out.upd.size; have h2 := HWDZ.out; omega)
          have HS7 := Lib.hid (show SrcAt V2 WD.heap.size [.int .i64 (n : Nat), .int .i64 (g.rows.length : Nat), .int .u32 (crc (graphB g) : Nat)] from by rw [← hnx]; exact HS7.out.alloc _)
          have HS14 := Lib.hid (show SrcAt V2 V1.heap.size [.int .i64 (g.base : Nat), .int .i64 (g.set.H : Nat), .int .i64 (g.set.P : Nat), .int .i64 (g.set.M : Nat), .int .u32 (g.set.S : Nat), .slice ga g.rows.length gc] from by rw [← hnx]; exact SrcAt.new V1 [.int .i64 (g.base : Nat), .int .i64 (g.set.H : Nat), .int .i64 (g.set.P : Nat), .int .i64 (g.set.M : Nat), .int .u32 (g.set.S : Nat), .slice ga g.rows.length gc] 103)
          rw [hnx]
          clear hnx
          refine hK.out _ _ ⟨(HCell.out _ HO.out.upd).1, fun _ => (HCell.out _ HO.out.upd).2.1, fun _ => (HCell.out _ HO.out.upd).2.2⟩ ?_
          clear hK K
          (try simp only [Act.put, List.setIfInBounds_toArray, List.set_cons_zero, List.set_cons_succ])
          refine wpAnyL_one (i := 8) (o := ⟨some 60, _, _, _, _, _⟩) (by kernel_rfl) rfl (fun K hK => ?_)
          refine step_append_lies _ rfl (.tmp 57) (.tmp 59) 94 rfl W2.heap.size 149 i0 (.agg #[.int .i64 0, .int .i64 0, .int .u32 0]) 3 24 Tryz.underlying94 hi hz0 hz1 hz2 rfl (by decide) (.slice xa lks.length xc) lks.length (lks.flatMap linkV) rfl HO.out.l _ 1 1 [.int .i64 (n : Nat), .int .i64 (g.rows.length : Nat), .int .u32 (crc (graphB g) : Nat)] rfl rfl HS7.out.2 (link_oneX _ _ _) (by decide) (by unfold maxLen; omega) (by omega) (HZW.out _ HO.out.upd) _ rfl ?_
          intro gg cp V3 hown hg hat hlt
          have HS14 := Lib.hid (HS14.out.grown hg (fun e => by have h1 := HLT.out _ e; have h2 := HWDZ.out; have h3 := HZV1.out; omega))
          have HO := Lib.hid (HO.out.pushL (y := (n, g.rows.length, crc (graphB g))) hown hg hat)
          clear hown hg hat hlt
          refine hK.out _ _ ⟨(HCell.out _ HO.out.upd).1, fun _ => (HCell.out _ HO.out.upd).2.1, fun _ => (HCell.out _ HO.out.upd).2.2⟩ ?_
          clear hK K
          (try simp only [Act.put, List.setIfInBounds_toArray, List.set_cons_zero, List.set_cons_succ])
          refine wpAnyL_one (i := 15) (o := ⟨some 67, _, _, _, _, _⟩) (by kernel_rfl) rfl (fun K hK => ?_)
          refine step_append_lies _ rfl (.tmp 64) (.tmp 66) 95 rfl W2.heap.size 103 j0 (.agg #[.int .i64 0, .int .i64 0, .int .i64 0, .int .i64 0, .int .u32 0, .slice none 0 0]) 6 64 Tryz.underlying95 hj hj0 hj1 hj2 rfl (by decide) (.slice ya grs.length yc) grs.length (grs.flatMap graphC) rfl HO.out.g _ 1 1 [.int .i64 (g.base : Nat), .int .i64 (g.set.H : Nat), .int .i64 (g.set.P : Nat), .int .i64 (g.set.M : Nat), .int .u32 (g.set.S : Nat), .slice ga g.rows.length gc] rfl rfl HS14.out.2 (one_gr ⟨ga, g.rows.length, gc, g⟩) (by decide) (by unfold maxLen; omega) (by omega) (HZW.out _ HO.out.upd) _ rfl ?_
          intro hh dp V4 hown hg hat hlt
          have HO := Lib.hid (HO.out.pushG (y := ⟨ga, g.rows.length, gc, g⟩) hown hg hat)
          clear hown hg hat hlt
          refine hK.out _ _ ⟨(HCell.out _ HO.out.upd).1, fun _ => (HCell.out _ HO.out.upd).2.1, fun _ => (HCell.out _ HO.out.upd).2.2⟩ ?_
          clear hK K
          (try simp only [Act.put, List.setIfInBounds_toArray, List.set_cons_zero, List.set_cons_succ])
          refine wpAnyL_take (T := fun Y => Y.cell? ⟨wr.heap.size, 0, none⟩ = some (.int .i64 (n : Nat)) ∧ Y.cell? ⟨wr.heap.size, 1, none⟩ = some (.int .i64 (g.rows.length : Nat)) ∧ Y.cell? ⟨wr.heap.size, 2, none⟩ = some (.int .u32 (crc (graphB g) : Nat)) ∧ Y.cell? ⟨w5.heap.size, 0, none⟩ = some (.int .i64 (g.base : Nat)) ∧ Y.cell? ⟨w5.heap.size, 1, none⟩ = some (.int .i64 (g.set.H : Nat)) ∧ Y.cell? ⟨w5.heap.size, 2, none⟩ = some (.int .i64 (g.set.P : Nat)) ∧ Y.cell? ⟨w5.heap.size, 3, none⟩ = some (.int .i64 (g.set.M : Nat)) ∧ Y.cell? ⟨w5.heap.size, 4, none⟩ = some (.int .u32 (g.set.S : Nat)) ∧ Y.cell? ⟨w5.heap.size, 5, none⟩ = some (.slice ga g.rows.length gc)) (i := 16) (oi := ⟨some 68, _, _, _, _, _⟩) (v := ?_) rfl (by decide) (by decide) (by kernel_rfl) (by kernel_rfl) (by kernel_rfl) (fun _ _ _ h => h) (.inl fun _ h => h) (Or.inl ⟨by rfl, ?hy1716⟩) ⟨(HCell.out _ HO.out.upd).1, fun _ => (HCell.out _ HO.out.upd).2.1, fun _ => (HCell.out _ HO.out.upd).2.2⟩ ?hr1716
          case hy1716 => (intro w' hSw; (try dsimp only at hSw); go_simp <;> (with_reducible rfl))
          (try simp only [Act.put, List.setIfInBounds_toArray, List.set_cons_zero, List.set_cons_succ])
          refine wpAnyL_take (T := fun Y => Y.cell? ⟨wr.heap.size, 0, none⟩ = some (.int .i64 (n : Nat)) ∧ Y.cell? ⟨wr.heap.size, 1, none⟩ = some (.int .i64 (g.rows.length : Nat)) ∧ Y.cell? ⟨wr.heap.size, 2, none⟩ = some (.int .u32 (crc (graphB g) : Nat)) ∧ Y.cell? ⟨w5.heap.size, 0, none⟩ = some (.int .i64 (g.base : Nat)) ∧ Y.cell? ⟨w5.heap.size, 1, none⟩ = some (.int .i64 (g.set.H : Nat)) ∧ Y.cell? ⟨w5.heap.size, 2, none⟩ = some (.int .i64 (g.set.P : Nat)) ∧ Y.cell? ⟨w5.heap.size, 3, none⟩ = some (.int .i64 (g.set.M : Nat)) ∧ Y.cell? ⟨w5.heap.size, 4, none⟩ = some (.int .u32 (g.set.S : Nat)) ∧ Y.cell? ⟨w5.heap.size, 5, none⟩ = some (.slice ga g.rows.length gc)) (i := 17) (oi := ⟨some 69, _, _, _, _, _⟩) (v := ?_) rfl (by decide) (by decide) (by kernel_rfl) (by kernel_rfl) (by kernel_rfl) (fun _ _ _ h => h) (.inl fun _ h => h) (Or.inl ⟨by rfl, ?hy1817⟩) ⟨(HCell.out _ HO.out.upd).1, fun _ => (HCell.out _ HO.out.upd).2.1, fun _ => (HCell.out _ HO.out.upd).2.2⟩ ?hr1817
          case hy1817 => (intro w' hSw; (try dsimp only at hSw); go_simp <;> (with_reducible rfl))
          (try simp only [Act.put, List.setIfInBounds_toArray, List.set_cons_zero, List.set_cons_succ])
          obtain ⟨y1, y2, f1, f2⟩ := HBX.out _ HO.out.upd
          refine wpAnyL_one (i := 18) (o := ⟨none, _, _, _, _, _⟩) (by kernel_rfl) rfl (fun K hK => ?_)
          go_simp
          refine hK.out _ _ ⟨(HCX.out _ HO.out.upd _ (.bool true)).1, fun h => Bool.noConfusion h, fun _ => (HCX.out _ HO.out.upd _ (.bool true)).2.1⟩ ?_
          clear hK K
          (try simp only [Act.put, List.setIfInBounds_toArray, List.set_cons_zero, List.set_cons_succ])
          refine wpAnyL_take (T := fun Y => Y.cell? ⟨wr.heap.size, 0, none⟩ = some (.int .i64 (n : Nat)) ∧ Y.cell? ⟨wr.heap.size, 1, none⟩ = some (.int .i64 (g.rows.length : Nat)) ∧ Y.cell? ⟨wr.heap.size, 2, none⟩ = some (.int .u32 (crc (graphB g) : Nat)) ∧ Y.cell? ⟨w5.heap.size, 0, none⟩ = some (.int .i64 (g.base : Nat)) ∧ Y.cell? ⟨w5.heap.size, 1, none⟩ = some (.int .i64 (g.set.H : Nat)) ∧ Y.cell? ⟨w5.heap.size, 2, none⟩ = some (.int .i64 (g.set.P : Nat)) ∧ Y.cell? ⟨w5.heap.size, 3, none⟩ = some (.int .i64 (g.set.M : Nat)) ∧ Y.cell? ⟨w5.heap.size, 4, none⟩ = some (.int .u32 (g.set.S : Nat)) ∧ Y.cell? ⟨w5.heap.size, 5, none⟩ = some (.slice ga g.rows.length gc)) (i := 19) (oi := ⟨some 70, _, _, _, _, _⟩) (v := ?_) rfl (by decide) (by decide) (by kernel_rfl) (by kernel_rfl) (by kernel_rfl) (fun _ _ _ h => h) (.inl fun _ h => h) (Or.inl ⟨by rfl, ?hy1919⟩) ⟨(HCX.out _ HO.out.upd _ (.bool true)).1, fun h => Bool.noConfusion h, fun _ => (HCX.out _ HO.out.upd _ (.bool true)).2.1⟩ ?hr1919
          case hy1919 => (intro w' hSw; (try dsimp only at hSw); go_simp <;> (with_reducible rfl))
          (try simp only [Act.put, List.setIfInBounds_toArray, List.set_cons_zero, List.set_cons_succ])
          refine wpAnyL_take (T := fun Y => Y.cell? ⟨wr.heap.size, 0, none⟩ = some (.int .i64 (n : Nat)) ∧ Y.cell? ⟨wr.heap.size, 1, none⟩ = some (.int .i64 (g.rows.length : Nat)) ∧ Y.cell? ⟨wr.heap.size, 2, none⟩ = some (.int .u32 (crc (graphB g) : Nat)) ∧ Y.cell? ⟨w5.heap.size, 0, none⟩ = some (.int .i64 (g.base : Nat)) ∧ Y.cell? ⟨w5.heap.size, 1, none⟩ = some (.int .i64 (g.set.H : Nat)) ∧ Y.cell? ⟨w5.heap.size, 2, none⟩ = some (.int .i64 (g.set.P : Nat)) ∧ Y.cell? ⟨w5.heap.size, 3, none⟩ = some (.int .i64 (g.set.M : Nat)) ∧ Y.cell? ⟨w5.heap.size, 4, none⟩ = some (.int .u32 (g.set.S : Nat)) ∧ Y.cell? ⟨w5.heap.size, 5, none⟩ = some (.slice ga g.rows.length gc)) (i := 20) (oi := ⟨some 71, _, _, _, _, _⟩) (v := ?_) rfl (by decide) (by decide) (by kernel_rfl) (by kernel_rfl) (by kernel_rfl) (fun _ _ _ h => h) (.inl fun _ h => h) (Or.inl ⟨by rfl, ?hy2020⟩) ⟨(HCX.out _ HO.out.upd _ (.bool true)).1, fun h => Bool.noConfusion h, fun _ => (HCX.out _ HO.out.upd _ (.bool true)).2.1⟩ ?hr2020
          case hy2020 => (intro w' hSw; (try dsimp only at hSw); go_simp <;> (with_reducible rfl))
          (try simp only [Act.put, List.setIfInBounds_toArray, List.set_cons_zero, List.set_cons_succ])
          refine wpAnyL_one (i := 21) (o := ⟨none, _, _, _, _, _⟩) (by kernel_rfl) rfl (fun K hK => ?_)
          go_simp
          refine hK.out _ _ ⟨(HCX.out _ HO.out.upd _ _).2.2, fun h => Bool.noConfusion h, fun h => Bool.noConfusion h⟩ ?_
          clear hK K
          (try simp only [Act.put, List.setIfInBounds_toArray, List.set_cons_zero, List.set_cons_succ])
          refine wpAnyL_done (by kernel_rfl) ?_ _
          have HEND := Lib.hid (HPU.out _ _ _ _ HO.out rfl)
          clear y1 y2 f1 f2
          go_wp2
          go_roundw
          case rel => exact ⟨k + 1, by omega, by go_num, HEND.out⟩
          case measure => simp [intOf]; omega
      · have HO := HO
        go_simp
        obtain ⟨V1, hnx⟩ : ∃ V, WD.alloc (.cells #[.int .i64 (g.base : Nat), .int .i64 (g.set.H : Nat), .int .i64 (g.set.P : Nat), .int .i64 (g.set.M : Nat), .int .u32 (g.set.S : Nat), .slice ga g.rows.length gc] 103) = V := ⟨_, rfl⟩
        have HO := Lib.hid (show OS W6 V1 W2.heap.size (.slice xa lks.length xc) (.slice ya grs.length yc) (.slice xa lks.length xc) (.slice ya grs.length yc) lks grs from by rw [← hnx]; exact HO.out.alloc _)
        have HZV1 := Lib.hid (show wr.heap.size ≤ V1.heap.size from by have h1 := HO.out.upd.size; have h2 := HWDZ.out; omega)
        have HS14 := Lib.hid (show SrcAt V1 WD.heap.size [.int .i64 (g.base : Nat), .int .i64 (g.set.H : Nat), .int .i64 (g.set.P : Nat), .int .i64 (g.set.M : Nat), .int .u32 (g.set.S : Nat), .slice ga g.rows.length gc] from by rw [← hnx]; exact SrcAt.new WD [.int .i64 (g.base : Nat), .int .i64 (g.set.H : Nat), .int .i64 (g.set.P : Nat), .int .i64 (g.set.M : Nat), .int .u32 (g.set.S : Nat), .slice ga g.rows.length gc] 103)
        rw [hnx]
        clear hnx
        refine hK.out _ _ ⟨(HCell.out _ HO.out.upd).1, fun _ => (HCell.out _ HO.out.upd).2.1, fun _ => (HCell.out _ HO.out.upd).2.2⟩ ?_
        clear hK K
        (try simp only [Act.put, List.setIfInBounds_toArray, List.set_cons_zero, List.set_cons_succ])
        refine wpAnyL_one (i := 7) (o := ⟨some 59, _, _, _, _, _⟩) (by kernel_rfl) rfl (fun K hK => ?_)
        go_simp
        obtain ⟨V2, hnx⟩ : ∃ V, V1.alloc (.cells #[.int .i64 (n : Nat), .int .i64 (g.rows.length : Nat), .int .u32 (crc (graphB g) : Nat)] 149) = V := ⟨_, rfl⟩
        have HO := Lib.hid (show OS W6 V2 W2.heap.size (.slice xa lks.length xc) (.slice ya grs.length yc) (.slice xa lks.length xc) (.slice ya grs.length yc) lks grs from by rw [← hnx]; exact HO.out.alloc _)
        have HZV2 := Lib.hid (show wr.heap.size ≤ V2.heap.size from by have h1 := HO.out.upd.size; have h2 := HWDZ.out; omega)
        have HS14 := Lib.hid (show SrcAt V2 WD.heap.size [.int .i64 (g.base : Nat), .int .i64 (g.set.H : Nat), .int .i64 (g.set.P : Nat), .int .i64 (g.set.M : Nat), .int .u32 (g.set.S : Nat), .slice ga g.rows.length gc] from by rw [← hnx]; exact HS14.out.alloc _)
        have HS7 := Lib.hid (show SrcAt V2 V1.heap.size [.int .i64 (n : Nat), .int .i64 (g.rows.length : Nat), .int .u32 (crc (graphB g) : Nat)] from by rw [← hnx]; exact SrcAt.new V1 [.int .i64 (n : Nat), .int .i64 (g.rows.length : Nat), .int .u32 (crc (graphB g) : Nat)] 149)
        rw [hnx]
        clear hnx
        refine hK.out _ _ ⟨(HCell.out _ HO.out.upd).1, fun _ => (HCell.out _ HO.out.upd).2.1, fun _ => (HCell.out _ HO.out.upd).2.2⟩ ?_
        clear hK K
        (try simp only [Act.put, List.setIfInBounds_toArray, List.set_cons_zero, List.set_cons_succ])
        refine wpAnyL_one (i := 8) (o := ⟨some 60, _, _, _, _, _⟩) (by kernel_rfl) rfl (fun K hK => ?_)
        refine step_append_lies _ rfl (.tmp 57) (.tmp 59) 94 rfl W2.heap.size 149 i0 (.agg #[.int .i64 0, .int .i64 0, .int .u32 0]) 3 24 Tryz.underlying94 hi hz0 hz1 hz2 rfl (by decide) (.slice xa lks.length xc) lks.length (lks.flatMap linkV) rfl HO.out.l _ 1 1 [.int .i64 (n : Nat), .int .i64 (g.rows.length : Nat), .int .u32 (crc (graphB g) : Nat)] rfl rfl HS7.out.2 (link_oneX _ _ _) (by decide) (by unfold maxLen; omega) (by omega) (HZW.out _ HO.out.upd) _ rfl ?_
        intro gg cp V3 hown hg hat hlt
        have HS14 := Lib.hid (HS14.out.grown hg (fun e => by have h1 := HLT.out _ e; have h2 := HWDZ.out; have h3 := HZV1.out; omega))
        have HO := Lib.hid (HO.out.pushL (y := (n, g.rows.length, crc (graphB g))) hown hg hat)
        clear hown hg hat hlt
        refine hK.out _ _ ⟨(HCell.out _ HO.out.upd).1, fun _ => (HCell.out _ HO.out.upd).2.1, fun _ => (HCell.out _ HO.out.upd).2.2⟩ ?_
        clear hK K
        (try simp only [Act.put, List.setIfInBounds_toArray, List.set_cons_zero, List.set_cons_succ])
        refine wpAnyL_one (i := 15) (o := ⟨some 67, _, _, _, _, _⟩) (by kernel_rfl) rfl (fun K hK => ?_)
        refine step_append_lies _ rfl (.tmp 64) (.tmp 66) 95 rfl W2.heap.size 103 j0 (.agg #[.int .i64 0, .int .i64 0, .int .i64 0, .int .i64 0, .int .u32 0, .slice none 0 0]) 6 64 Tryz.underlying95 hj hj0 hj1 hj2 rfl (by decide) (.slice ya grs.length yc) grs.length (grs.flatMap graphC) rfl HO.out.g _ 1 1 [.int .i64 (g.base : Nat), .int .i64 (g.set.H : Nat), .int .i64 (g.set.P : Nat), .int .i64 (g.set.M : Nat), .int .u32 (g.set.S : Nat), .slice ga g.rows.length gc] rfl rfl HS14.out.2 (one_gr ⟨ga, g.rows.length, gc, g⟩) (by decide) (by unfold maxLen; omega) (by omega) (HZW.out _ HO.out.upd) _ rfl ?_
        intro hh dp V4 hown hg hat hlt
        have HO := Lib.hid (HO.out.pushG (y := ⟨ga, g.rows.length, gc, g⟩) hown hg hat)
        clear hown hg hat hlt
        refine hK.out _ _ ⟨(HCell.out _ HO.out.upd).1, fun _ => (HCell.out _ HO.out.upd).2.1, fun _ => (HCell.out _ HO.out.upd).2.2⟩ ?_
        clear hK K
        (try simp only [Act.put, List.setIfInBounds_toArray, List.set_cons_zero, List.set_cons_succ])
        refine wpAnyL_take (T := fun Y => Y.cell? ⟨wr.heap.size, 0, none⟩ = some (.int .i64 (n : Nat)) ∧ Y.cell? ⟨wr.heap.size, 1, none⟩ = some (.int .i64 (g.rows.length : Nat)) ∧ Y.cell? ⟨wr.heap.size, 2, none⟩ = some (.int .u32 (crc (graphB g) : Nat)) ∧ Y.cell? ⟨w5.heap.size, 0, none⟩ = some (.int .i64 (g.base : Nat)) ∧ Y.cell? ⟨w5.heap.size, 1, none⟩ = some (.int .i64 (g.set.H : Nat)) ∧ Y.cell? ⟨w5.heap.size, 2, none⟩ = some (.int .i64 (g.set.P : Nat)) ∧ Y.cell? ⟨w5.heap.size, 3, none⟩ = some (.int .i64 (g.set.M : Nat)) ∧ Y.cell? ⟨w5.heap.size, 4, none⟩ = some (.int .u32 (g.set.S : Nat)) ∧ Y.cell? ⟨w5.heap.size, 5, none⟩ = some (.slice ga g.rows.length gc)) (i := 16) (oi := ⟨some 68, _, _, _, _, _⟩) (v := ?_) rfl (by decide) (by decide) (by kernel_rfl) (by kernel_rfl) (by kernel_rfl) (fun _ _ _ h => h) (.inl fun _ h => h) (Or.inl ⟨by rfl, ?hy2116⟩) ⟨(HCell.out _ HO.out.upd).1, fun _ => (HCell.out _ HO.out.upd).2.1, fun _ => (HCell.out _ HO.out.upd).2.2⟩ ?hr2116
        case hy2116 => (intro w' hSw; (try dsimp only at hSw); go_simp <;> (with_reducible rfl))
        (try simp only [Act.put, List.setIfInBounds_toArray, List.set_cons_zero, List.set_cons_succ])
        refine wpAnyL_take (T := fun Y => Y.cell? ⟨wr.heap.size, 0, none⟩ = some (.int .i64 (n : Nat)) ∧ Y.cell? ⟨wr.heap.size, 1, none⟩ = some (.int .i64 (g.rows.length : Nat)) ∧ Y.cell? ⟨wr.heap.size, 2, none⟩ = some (.int .u32 (crc (graphB g) : Nat)) ∧ Y.cell? ⟨w5.heap.size, 0, none⟩ = some (.int .i64 (g.base : Nat)) ∧ Y.cell? ⟨w5.heap.size, 1, none⟩ = some (.int .i64 (g.set.H : Nat)) ∧ Y.cell? ⟨w5.heap.size, 2, none⟩ = some (.int .i64 (g.set.P : Nat)) ∧ Y.cell? ⟨w5.heap.size, 3, none⟩ = some (.int .i64 (g.set.M : Nat)) ∧ Y.cell? ⟨w5.heap.size, 4, none⟩ = some (.int .u32 (g.set.S : Nat)) ∧ Y.cell? ⟨w5.heap.size, 5, none⟩ = some (.slice ga g.rows.length gc)) (i := 17) (oi := ⟨some 69, _, _, _, _, _⟩) (v := ?_) rfl (by decide) (by decide) (by kernel_rfl) (by kernel_rfl) (by kernel_rfl) (fun _ _ _ h => h) (.inl fun _ h => h) (Or.inl ⟨by rfl, ?hy2217⟩) ⟨(HCell.out _ HO.out.upd).1, fun _ => (HCell.out _ HO.out.upd).2.1, fun _ => (HCell.out _ HO.out.upd).2.2⟩ ?hr2217
        case hy2217 => (intro w' hSw; (try dsimp only at hSw); go_simp <;> (with_reducible rfl))
        (try simp only [Act.put, List.setIfInBounds_toArray, List.set_cons_zero, List.set_cons_succ])
        obtain ⟨y1, y2, f1, f2⟩ := HBX.out _ HO.out.upd
        refine wpAnyL_one (i := 18) (o := ⟨none, _, _, _, _, _⟩) (by kernel_rfl) rfl (fun K hK => ?_)
        go_simp
        refine hK.out _ _ ⟨(HCX.out _ HO.out.upd _ (.bool true)).1, fun h => Bool.noConfusion h, fun _ => (HCX.out _ HO.out.upd _ (.bool true)).2.1⟩ ?_
        clear hK K
        (try simp only [Act.put, List.setIfInBounds_toArray, List.set_cons_zero, List.set_cons_succ])
        refine wpAnyL_take (T := fun Y => Y.cell? ⟨wr.heap.size, 0, none⟩ = some (.int .i64 (n : Nat)) ∧ Y.cell? ⟨wr.heap.size, 1, none⟩ = some (.int .i64 (g.rows.length : Nat)) ∧ Y.cell? ⟨wr.heap.size, 2, none⟩ = some (.int .u32 (crc (graphB g) : Nat)) ∧ Y.cell? ⟨w5.heap.size, 0, none⟩ = some (.int .i64 (g.base : Nat)) ∧ Y.cell? ⟨w5.heap.size, 1, none⟩ = some (.int .i64 (g.set.H : Nat)) ∧ Y.cell? ⟨w5.heap.size, 2, none⟩ = some (.int .i64 (g.set.P : Nat)) ∧ Y.cell? ⟨w5.heap.size, 3, none⟩ = some (.int .i64 (g.set.M : Nat)) ∧ Y.cell? ⟨w5.heap.size, 4, none⟩ = some (.int .u32 (g.set.S : Nat)) ∧ Y.cell? ⟨w5.heap.size, 5, none⟩ = some (.slice ga g.rows.length gc)) (i := 19) (oi := ⟨some 70, _, _, _, _, _⟩) (v := ?_) rfl (by decide) (by decide) (by kernel_rfl) (by kernel_rfl) (by kernel_rfl) (fun _ _ _ h => h) (.inl fun _ h => h) (Or.inl ⟨by rfl, ?hy2319⟩) ⟨(HCX.out _ HO.out.upd _ (.bool true)).1, fun h => Bool.noConfusion h, fun _ => (HCX.out _ HO.out.upd _ (.bool true)).2.1⟩ ?hr2319
        case hy2319 => (intro w' hSw; (try dsimp only at hSw); go_simp <;> (with_reducible rfl))
        (try simp only [Act.put, List.setIfInBounds_toArray, List.set_cons_zero, List.set_cons_succ])
        refine wpAnyL_take (T := fun Y => Y.cell? ⟨wr.heap.size, 0, none⟩ = some (.int .i64 (n : Nat)) ∧ Y.cell? ⟨wr.heap.size, 1, none⟩ = some (.int .i64 (g.rows.length : Nat)) ∧ Y.cell? ⟨wr.heap.size, 2, none⟩ = some (.int .u32 (crc (graphB g) : Nat)) ∧ Y.cell? ⟨w5.heap.size, 0, none⟩ = some (.int .i64 (g.base : Nat)) ∧ Y.cell? ⟨w5.heap.size, 1, none⟩ = some (.int .i64 (g.set.H : Nat)) ∧ Y.cell? ⟨w5.heap.size, 2, none⟩ = some (.int .i64 (g.set.P : Nat)) ∧ Y.cell? ⟨w5.heap.size, 3, none⟩ = some (.int .i64 (g.set.M : Nat)) ∧ Y.cell? ⟨w5.heap.size, 4, none⟩ = some (.int .u32 (g.set.S : Nat)) ∧ Y.cell? ⟨w5.heap.size, 5, none⟩ = some (.slice ga g.rows.length gc)) (i := 20) (oi := ⟨some 71, _, _, _, _, _⟩) (v := ?_) rfl (by decide) (by decide) (by kernel_rfl) (by kernel_rfl) (by kernel_rfl) (fun _ _ _ h => h) (.inl fun _ h => h) (Or.inl ⟨by rfl, ?hy2420⟩) ⟨(HCX.out _ HO.out.upd _ (.bool true)).1, fun h => Bool.noConfusion h, fun _ => (HCX.out _ HO.out.upd _ (.bool true)).2.1⟩ ?hr2420
        case hy2420 => (intro w' hSw; (try dsimp only at hSw); go_simp <;> (with_reducible rfl))
        (try simp only [Act.put, List.setIfInBounds_toArray, List.set_cons_zero, List.set_cons_succ])
        refine wpAnyL_one (i := 21) (o := ⟨none, _, _, _, _, _⟩) (by kernel_rfl) rfl (fun K hK => ?_)
        go_simp
        refine hK.out _ _ ⟨(HCX.out _ HO.out.upd _ _).2.2, fun h => Bool.noConfusion h, fun h => Bool.noConfusion h⟩ ?_
        clear hK K
        (try simp only [Act.put, List.setIfInBounds_toArray, List.set_cons_zero, List.set_cons_succ])
        refine wpAnyL_done (by kernel_rfl) ?_ _
        have HEND := Lib.hid (HPU.out _ _ _ _ HO.out rfl)
        clear y1 y2 f1 f2
        go_wp2
        go_roundw
        case rel => exact ⟨k + 1, by omega, by go_num, HEND.out⟩
        case measure => simp [intOf]; omega
    · obtain rfl : k = L.length := by omega
      obtain ⟨⟨I, R, hI, hId, hIl, hIg, hIf⟩, hkeep⟩ := hrel
      rw [List.take_length] at hIl
      rw [HLN.out, List.take_length] at hIg
      go_wp2
      refine bodyPost_ret (v := .tuple #[.pointer (some ⟨w2.heap.size, 0, none⟩), .int .i64 0]) (by simp [results, Tryz.results31, go_sem]) rfl ⟨rfl, ⟨I, R, hI, hId, hIl, hIg, fun j hj => ?_⟩, ?_⟩
      · have := HZ2.out
        rcases hIf j hj with e | e <;> omega
      · have h1 : Below w2.heap.size w2 W2 := bl_trans HB1.out HB2.out
        exact h1.trans (hkeep.below (fun j e => by have := HZ2.out; rcases e with e | e <;> omega) (by have := HZ2.out; omega))
end Go.Proofs.YtbhfbdcmamodcaaGreatDoor
namespace Go.Proofs.YtbhfbdcmamodcaaGreatDoor
open Go.RowKit Go.Maps TrMath FrMath PackMath SumMath
section
variable {w w' : World} {B s x p : Nat} {E : Foot} {ts : List Ents} {cs : List ComP} {T : List UInt8} {gs : List GraphP} {k nx : Nat}
theorem Grew.same (hb : Below w.heap.size w w') (hE : ∀ j, E j → j < w.heap.size) : Grew E E w w' := (Grew.refl hE).thenB hb
theorem gens_map (G : List GrE) : genAll G = (G.map GrE.g).flatMap fun g => genRows g.rows := by
  unfold genAll
  induction G with
  | nil => rfl
  | cons e r ih => rw [List.flatMap_cons, List.map_cons, List.flatMap_cons, ih]
theorem Parts.total {S : StoreS} {I : IndexS} {R F : Foot} {v : View} {q : Nat} (P : Parts w s x p E ts cs T gs nx S I R F v q) (hl : Layd ts cs gs k) : totalL I.links = k := by
  unfold totalL
  rw [P.has.counts, hl.sum]
theorem linkOf_len (n : Nat) (Q : SetP) (ts : List Ents) (cs : List ComP) (k : Nat) : (linkOf n (allG Q ts cs k)).2.1 = cs.length - k := by
  show (rowsFrom Q ts cs k (cs.length - k)).length = _
  rw [rowsFrom_len]
theorem wUpdate (h : WholeAt w B s x p E ts cs T gs k nx) (hT : T.length ≤ 524288) (hc : cs.length ≤ 1200) (hnx : nx < 99) {Q : SetP} (hQ : OkQ Q) :
    Calls Tryz.prog 12 #[.pointer (some ⟨x, 0, none⟩), srcV s, .agg #[.int .i64 (Q.H : Nat), .int .i64 (Q.P : Nat), .int .i64 (Q.M : Nat), .int .u32 (Q.S : Nat)]] w fun e w' => e = .returned (.int .i64 0) ∧ ∃ E' gs', WholeAt w' B s x p E' ts cs T gs' cs.length (nx + 1) ∧ Grew E E' w w' := by
  obtain ⟨S, I, R, F, v, q, P⟩ := h.ex
  have ok := P.ok h.layd h.good h.syn h.synB h.low hT hc
  have hk := P.total h.layd
  have hkl := h.layd.le
  have hn := P.nxt
  have hSl : S.commits.length = cs.length := by rw [← P.cm, List.length_map]
  have h8 := P.l8
  by_cases hfull : k = cs.length
  · subst hfull
    refine (xUpdateNone P.st P.idx Q hQ.chk (by omega) (by omega) (by omega)).mono fun e w' ⟨h1, hb⟩ => ⟨h1, E, gs, (h.below hb).more (Nat.le_succ _), Grew.same hb h.lt⟩
  · by_cases hl8 : I.links.length = 8
    · have hgd := layer_good h.good hc hQ (k := 0) (m := cs.length) (by omega)
      have hgc : GoodChain [linkOf (nextN I.links) (allG Q ts cs 0)] := by
        refine ⟨by simp, fun y hy => ?_, fun y hy => ?_, fun y hy => ?_, by simp, ?_⟩
        · rw [List.mem_singleton.1 hy]; show nextN I.links ≤ 1073741824; omega
        · rw [List.mem_singleton.1 hy, linkOf_len]; omega
        · rw [List.mem_singleton.1 hy]; exact crc_lt _
        · show (linkOf (nextN I.links) (allG Q ts cs 0)).2.1 + 0 ≤ 65536; rw [linkOf_len]; omega
      refine (xUpdateFull P.st ts cs P.tr P.cm h.good ok Q hQ.chk hQ.set.S (by omega) hl8 hgd.1 hgd.2 (nextN I.links) rfl (by omega) hgc).mono fun e w' ⟨h1, h2⟩ => ⟨h1, ?_⟩
      have hlay : Layd ts cs [allG Q ts cs 0] cs.length := by
        have := Layd.push (ts := ts) (cs := cs) (m := cs.length) .nil hQ (by omega) (by omega)
        rw [Nat.zero_add] at this
        exact this
      obtain ⟨E', k1, k2⟩ := P.upTo h.good h.syn h.synB h.low h2 (fun hd => P.has.lay (by omega) (fun y hy => by have := next_gt I.links y hy; omega) (allG Q ts cs 0) (L0 := []) (gs0 := []) (.inr ⟨rfl, rfl⟩) hd) (by simp) (nx' := nx + 1) (by rw [next_one]; omega) (by simp) hlay
      exact ⟨E', _, k1, k2⟩
    · have hgd := layer_good h.good hc hQ (k := k) (m := cs.length - k) (by omega)
      have hgc : GoodChain (I.links ++ [linkOf (nextN I.links) (allG Q ts cs k)]) := by
        have g0 := P.has.chainOk h.layd hc h8 P.alone
        refine ⟨by rw [List.length_append]; simp; omega, fun y hy => ?_, fun y hy => ?_, fun y hy => ?_, ?_, ?_⟩
        · rcases List.mem_append.1 hy with hy | hy
          · exact g0.num y hy
          · rw [List.mem_singleton.1 hy]; show nextN I.links ≤ 1073741824; omega
        · rcases List.mem_append.1 hy with hy | hy
          · exact g0.cnt y hy
          · rw [List.mem_singleton.1 hy, linkOf_len]; omega
        · rcases List.mem_append.1 hy with hy | hy
          · exact g0.sum y hy
          · rw [List.mem_singleton.1 hy]; exact crc_lt _
        · rw [List.map_append, List.nodup_append]
          refine ⟨P.alone, by simp, fun a ha b hb e => ?_⟩
          obtain ⟨y, hy, rfl⟩ := List.mem_map.1 ha
          simp [linkOf] at hb
          have := next_gt I.links y hy
          omega
        · unfold totalL at hk ⊢
          rw [List.map_append, List.sum_append, hk]
          simp only [List.map_cons, List.map_nil, List.sum_cons, List.sum_nil, linkOf_len]
          omega
      have hgen : genAll I.graphs = gensN cs k := by rw [gens_map, P.gr, h.layd.gens]
      have hgl : I.graphs.length = I.links.length := by rw [P.has.len, ← P.gr, List.length_map]
      refine (xUpdate P.st ts cs P.tr P.cm h.good ok Q hQ.chk hQ.set.S k hk (by omega) hgen (by omega) (by omega) hgd.1 hgd.2 (nextN I.links) rfl (by omega) hgc).mono fun e w' ⟨h1, h2⟩ => ⟨h1, ?_⟩
      have hlay : Layd ts cs (I.graphs.map GrE.g ++ [allG Q ts cs k]) cs.length := by
        rw [P.gr]
        have := Layd.push (m := cs.length - k) h.layd hQ (by omega) (by omega)
        rw [show k + (cs.length - k) = cs.length from by omega] at this
        exact this
      obtain ⟨E', k1, k2⟩ := P.upTo h.good h.syn h.synB h.low h2 (fun hd => P.has.lay (by omega) (fun y hy => by have := next_gt I.links y hy; omega) (allG Q ts cs k) (L0 := I.links) (gs0 := I.graphs.map GrE.g) (.inl ⟨rfl, P.gr⟩) hd) (by rw [List.length_append]; simp; omega) (nx' := nx + 1) (by rw [next_push _ _ _ (Nat.le_refl _)]; omega) hgc.alone hlay
      exact ⟨E', _, k1, k2⟩
theorem wLen (h : WholeAt w B s x p E ts cs T gs k nx) (hc : cs.length ≤ 1200) : Calls Tryz.prog 16 #[.pointer (some ⟨x, 0, none⟩)] w fun e w' => e = .returned (.int .i64 (k : Nat)) ∧ Below w.heap.size w w' := by
  obtain ⟨S, I, R, F, v, q, P⟩ := h.ex
  have hk := P.total h.layd
  have hkl := h.layd.le
  have := xLen P.idx (by have := P.l8; omega) (by omega)
  rwa [hk] at this
theorem wOpenGo (h : WholeAt w B s x p E ts cs T gs k nx) (hc : cs.length ≤ 1200) : Calls Tryz.prog 31 #[.pointer (some ⟨p, 0, none⟩), .int .i64 (cs.length : Nat)] w fun e w' => e = .returned (.tuple #[.pointer (some ⟨w.heap.size, 0, none⟩), .int .i64 0]) ∧ ∃ E', WholeAt w' B s w.heap.size p E' ts cs T gs k nx ∧ Grew E E' w w' := by
  obtain ⟨S, I, R, F, v, q, P⟩ := h.ex
  have hFl := P.disk.lt
  have hSl := P.st.lt
  have key : ∀ (w' : World) (I' : IndexS) (R' : Foot), IndexAt w' w.heap.size I' R' → I'.disk = p → I'.links = I.links → I'.graphs.map GrE.g = gs → (∀ j, I'.foot w.heap.size R' j → w.heap.size ≤ j) → Below w.heap.size w w' → ∃ E', WholeAt w' B s w.heap.size p E' ts cs T gs k nx ∧ Grew E E' w w' := fun w' I' R' i1 i2 i3 i4 i5 hb => by
    have hBw : B ≤ w.heap.size := by
      have h1 := h.low s ((P.foot s).2 (.inr (.inl sown_s)))
      have h2 := hSl s sown_s
      omega
    refine ⟨fun j => F j ∨ j ∈ S.own s ∨ I'.foot w.heap.size R' j, ⟨⟨S, I', R', F, v, q, P.st.below hb, P.sp, P.tr, P.cm, i1, i2, i4, P.disk.below hb, P.pend, by rw [i3]; exact P.has, fun j a b => by have := hFl j a; have := i5 j b; omega, P.a2, fun j a b => by have := hSl j a; have := i5 j b; omega, fun j => Iff.rfl, by rw [i3]; exact P.l8, by rw [i3]; exact P.nxt, by rw [i3]; exact P.alone⟩, h.layd, h.good, h.syn.stays (hb.block _ h.syn.lt), h.synB, fun j hj => ?_⟩, Upd.of hb, fun j hj => ?_, fun j hj => ?_⟩
    · rcases hj with e | e | e
      · exact h.low j ((P.foot j).2 (.inl e))
      · exact h.low j ((P.foot j).2 (.inr (.inl e)))
      · have := i5 j e; omega
    · rcases hj with e | e | e
      · exact .inl ((P.foot j).2 (.inl e))
      · exact .inl ((P.foot j).2 (.inr (.inl e)))
      · exact .inr (i5 j e)
    · rcases hj with e | e | e
      · exact Nat.lt_of_lt_of_le (hFl j e) hb.size
      · exact Nat.lt_of_lt_of_le (hSl j e) hb.size
      · exact i1.flt j e
  by_cases hL : I.links = []
  · have hn : chainN ∉ v.map Prod.fst := fun hm => by
      obtain ⟨y, hy, e⟩ := List.mem_map.1 hm
      rcases P.has.names y hy with e2 | ⟨e2, _⟩ | ⟨l, hl, _⟩
      · rw [e] at e2; exact chain_log e2
      · exact e2 hL
      · rw [hL] at hl; cases hl
    have hg0 : gs = [] := List.length_eq_zero_iff.1 (by rw [← P.has.len, hL]; rfl)
    refine (xOpenNone P.disk hn cs.length).mono fun e w' ⟨h1, h2⟩ => ⟨h1, ?_⟩
    subst h2
    have hb := bl_alloc (Below.refl w.heap.size w) (.cells #[.pointer (some ⟨p, 0, none⟩), .slice none 0 0, .slice none 0 0] 97)
    refine key _ ⟨p, .slice none 0 0, .slice none 0 0, [], []⟩ (fun _ => False) ⟨heap_alloc_new _ _, OwnX.nil _ _ _ _ _, OwnX.nil _ _ _ _ _, by simp, fun _ h => h.elim, by simp [IndexS.own, Value.ownBlock], fun _ _ h => h⟩ rfl hL.symm (by rw [hg0]; rfl) (fun j hj => ?_) hb
    rcases hj with hj | hj
    · simp [IndexS.own, Value.ownBlock] at hj
      omega
    · exact hj.elim
  · have hgc := P.has.chainOk h.layd hc P.l8 P.alone
    refine (xOpen P.disk (P.has.chain hL) hgc P.has.l100 P.has.len P.has.files (fun g hg => (h.layd.good h.good hc g hg).1) (fun i hi => ?_) cs.length (fun g hg => (h.layd.pos g hg).2) (by omega)).mono fun e w' ⟨h1, ⟨I', R', i1, i2, i3, i4, i5⟩, hb⟩ => ⟨h1, key w' I' R' i1 i2 i3 i4 i5 hb⟩
    rw [h.layd.base i hi]
    unfold totalL
    rw [List.map_take, List.map_take, P.has.counts]
end
set_option maxRecDepth 100000 in
theorem wOpen {w : World} {B s x p : Nat} {E : Foot} {ts : List Ents} {cs : List ComP} {T : List UInt8} {gs : List GraphP} {k nx : Nat} (h : WholeAt w B s x p E ts cs T gs k nx) (hc : cs.length ≤ 1200) : Calls Tryz.prog 7 #[.pointer (some ⟨p, 0, none⟩), .int .i64 (cs.length : Nat)] w fun e w' => e = .returned (.pointer (some ⟨w.heap.size, 0, none⟩)) ∧ ∃ E', WholeAt w' B s w.heap.size p E' ts cs T gs k nx ∧ Grew E E' w w' := by
  have HO := Lib.hid (wOpenGo h hc)
  clear h
  go_enter Tryz.func7, Tryz.ntmps7
  go_wp2_with fail
  (with_reducible refine HO.out.mono ?_)
  rintro e w2 ⟨rfl, hu⟩
  have HU := Lib.hid hu
  clear hu
  go_wp2
  go_ret
  exact ⟨rfl, HU.out⟩
set_option maxRecDepth 100000 in
theorem wOpenNew {w : World} {p q : Nat} {F : Foot} {v : View} (hD : Disk w p F v q) (hn : chainN ∉ v.map Prod.fst) : Calls Tryz.prog 7 #[.pointer (some ⟨p, 0, none⟩), .int .i64 0] w fun e w' => e = .returned (.pointer (some ⟨w.heap.size, 0, none⟩)) ∧ w' = w.alloc (.cells #[.pointer (some ⟨p, 0, none⟩), .slice none 0 0, .slice none 0 0] 97) := by
  have HO := Lib.hid (show Calls Tryz.prog 31 #[.pointer (some ⟨p, 0, none⟩), .int .i64 0] w fun e w' => e = .returned (.tuple #[.pointer (some ⟨w.heap.size, 0, none⟩), .int .i64 0]) ∧ w' = w.alloc (.cells #[.pointer (some ⟨p, 0, none⟩), .slice none 0 0, .slice none 0 0] 97) from xOpenNone hD hn 0)
  clear hD hn
  go_enter Tryz.func7, Tryz.ntmps7
  go_wp2_with fail
  (with_reducible refine HO.out.mono ?_)
  rintro e w2 ⟨rfl, hu⟩
  have HU := Lib.hid hu
  clear hu
  go_wp2
  go_ret
  exact ⟨rfl, HU.out⟩
end Go.Proofs.YtbhfbdcmamodcaaGreatDoor
