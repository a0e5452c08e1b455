/- The whole: the names of the disk; The whole: Names. -/
import Derived.Test.YtbhfbdcmamodcaaGreatDoorL25
import Derived.Test.YtbhfbdcmamodcaaGreatDoorL16
import Derived.Shelf.Lay
import Derived.Shelf.Sort.Plain
import Derived.Sort.OwnSorted
import Derived.Ground.Names2Prog
set_option linter.unusedVariables false
set_option linter.unusedSimpArgs false
namespace Go.Proofs.YtbhfbdcmamodcaaGreatDoor
open Go.RowKit Go.Maps Go.Shelf Go.Sort
def nmLays190_ren : Go.Shelf.Ren := ⟨fun | 190 => 46 | 125 => 103 | 258 => 102 | 128 => 172 | 129 => 173 | 302 => 163 | 303 => 164 | 304 => 165 | 305 => 166 | 306 => 167 | 307 => 168 | 308 => 169 | 309 => 170 | 310 => 171 | 333 => 212 | 329 => 213 | 330 => 214 | 334 => 215 | 335 => 216 | 336 => 217 | 344 => 242 | n => n, fun | 31 => 24 | 9 => 9 | 3 => 3 | 46 => 192 | 0 => 0 | 51 => 47 | 53 => 197 | 4 => 4 | 183 => 264 | 182 => 263 | 131 => 175 | 5 => 5 | 218 => 314 | 222 => 318 | 228 => 344 | 229 => 345 | n => n, fun | n => n⟩
theorem nmLays190 : Go.Proofs.Lays.n190 Tryz.prog nmLays190_ren where
  mixed := by kernel_rfl
  f125 := Tryz.func103.trans (congrArg some (by kernel_rfl))
  f128 := Tryz.func172.trans (congrArg some (by kernel_rfl))
  f129 := Tryz.func173.trans (congrArg some (by kernel_rfl))
  f190 := Tryz.func46.trans (congrArg some (by kernel_rfl))
  f258 := Tryz.func102.trans (congrArg some (by kernel_rfl))
  f302 := Tryz.func163.trans (congrArg some (by kernel_rfl))
  f303 := Tryz.func164.trans (congrArg some (by kernel_rfl))
  f304 := Tryz.func165.trans (congrArg some (by kernel_rfl))
  f305 := Tryz.func166.trans (congrArg some (by kernel_rfl))
  f306 := Tryz.func167.trans (congrArg some (by kernel_rfl))
  f307 := Tryz.func168.trans (congrArg some (by kernel_rfl))
  f308 := Tryz.func169.trans (congrArg some (by kernel_rfl))
  f309 := Tryz.func170.trans (congrArg some (by kernel_rfl))
  f310 := Tryz.func171.trans (congrArg some (by kernel_rfl))
  f329 := Tryz.func213.trans (congrArg some (by kernel_rfl))
  f330 := Tryz.func214.trans (congrArg some (by kernel_rfl))
  f333 := Tryz.func212.trans (congrArg some (by kernel_rfl))
  f334 := Tryz.func215.trans (congrArg some (by kernel_rfl))
  f335 := Tryz.func216.trans (congrArg some (by kernel_rfl))
  f336 := Tryz.func217.trans (congrArg some (by kernel_rfl))
  f344 := Tryz.func242.trans (congrArg some (by kernel_rfl))
  t0 := Tryz.underlying0
  a0 := Tryz.isAgg0
  z0 := Tryz.sizeOf0
  v0 := Tryz.zeroValue0
  t3 := Tryz.underlying3
  a3 := Tryz.isAgg3
  z3 := Tryz.sizeOf3
  v3 := Tryz.zeroValue3
  t4 := Tryz.underlying4
  a4 := Tryz.isAgg4
  z4 := Tryz.sizeOf4
  v4 := Tryz.zeroValue4
  t5 := Tryz.underlying5
  a5 := Tryz.isAgg5
  z5 := Tryz.sizeOf5
  v5 := Tryz.zeroValue5
  t9 := Tryz.underlying9
  a9 := Tryz.isAgg9
  z9 := Tryz.sizeOf9
  v9 := Tryz.zeroValue9
  t31 := Tryz.underlying24
  a31 := Tryz.isAgg24
  z31 := Tryz.sizeOf24
  v31 := Tryz.zeroValue24
  t46 := Tryz.underlying192
  a46 := Tryz.isAgg192
  z46 := Tryz.sizeOf192
  v46 := Tryz.zeroValue192
  t51 := Tryz.underlying47
  a51 := Tryz.isAgg47
  z51 := Tryz.sizeOf47
  v51 := Tryz.zeroValue47
  t53 := Tryz.underlying197
  a53 := Tryz.isAgg197
  z53 := Tryz.sizeOf197
  v53 := Tryz.zeroValue197
  t131 := Tryz.underlying175
  a131 := Tryz.isAgg175
  z131 := Tryz.sizeOf175
  v131 := Tryz.zeroValue175
  t182 := Tryz.underlying263
  a182 := Tryz.isAgg263
  z182 := Tryz.sizeOf263
  v182 := Tryz.zeroValue263
  t183 := Tryz.underlying264
  a183 := Tryz.isAgg264
  z183 := Tryz.sizeOf264
  v183 := Tryz.zeroValue264
  t218 := Tryz.underlying314
  a218 := Tryz.isAgg314
  z218 := Tryz.sizeOf314
  v218 := Tryz.zeroValue314
  t222 := Tryz.underlying318
  a222 := Tryz.isAgg318
  z222 := Tryz.sizeOf318
  v222 := Tryz.zeroValue318
  t228 := Tryz.underlying344
  a228 := Tryz.isAgg344
  z228 := Tryz.sizeOf344
  v228 := Tryz.zeroValue344
  t229 := Tryz.underlying345
  a229 := Tryz.isAgg345
  z229 := Tryz.sizeOf345
  v229 := Tryz.zeroValue345
def lstOf (s : ByteArray) : List UInt8 := s.data.toList
def baOf (l : List UInt8) : ByteArray := ⟨l.toArray⟩
theorem ba_lst (s : ByteArray) : baOf (lstOf s) = s := by cases s; simp [baOf, lstOf]
theorem strs_enc (ns : List ByteArray) : strsV ns = (ns.map lstOf).map encStr := by
  unfold strsV
  rw [List.map_map]
  refine List.map_congr_left fun s _ => ?_
  show Value.string s = encStr (lstOf s)
  unfold encStr
  exact congrArg Value.string (ba_lst s).symm
theorem enc_strs (l : List (List UInt8)) : l.map encStr = strsV (l.map baOf) := by
  unfold strsV
  rw [List.map_map]
  rfl
theorem sSortNames (ns : List ByteArray) (B : Nat) (v : Value) (w : World) (h : OwnS w B v ns) (hn : ns ≠ []) (hl : ns.length ≤ 1000000) :
    Calls Tryz.prog 46 #[v] w fun e w' => e = .returned (.tuple #[]) ∧ ∃ ms, ms.Perm ns ∧ OwnS w' B v ms ∧ w.grownBy w' v.ownBlock := by
  unfold OwnS at h
  rcases h.2 with ⟨_, h0⟩ | ⟨g, cap, cur, rfl, hB, hb, h1, h2, h3, h4⟩
  · exact absurd (List.length_eq_zero_iff.1 h0) hn
  · have h4' : cur.toList.take (ns.map lstOf).length = (ns.map lstOf).map encStr := by rw [List.length_map, ← strs_enc]; simpa using h4
    have hc := Any.slices_Sort_string nmLays190 g 0 cap (ns.map lstOf) w (holds_of_block hb h4') (Array.getElem?_eq_some_iff.1 hb).1 (by rw [List.length_map]; omega)
    rw [List.length_map] at hc
    refine hc.mono fun e w' ⟨he, n, os, hw⟩ => ⟨he, ((ns.map lstOf).mergeSort fun x y => decide (x ≤ y)).map baOf, ?_, ?_, ?_⟩
    · have hp : ((ns.map lstOf).mergeSort fun x y => decide (x ≤ y)).Perm (ns.map lstOf) := List.mergeSort_perm _ _
      have := hp.map baOf
      rw [List.map_map] at this
      have e : ns.map (baOf ∘ lstOf) = ns := by
        conv => rhs; rw [← List.map_id ns]
        exact List.map_congr_left fun s _ => ba_lst s
      rwa [e] at this
    · subst hw
      have hlen : ((ns.map lstOf).mergeSort fun x y => decide (x ≤ y)).length = ns.length := by rw [List.length_mergeSort, List.length_map]
      have := ownsRow_sorted (w := w) (base := B) (n := n) (os := os) (ss := ns.map lstOf) (ts := (ns.map lstOf).mergeSort fun x y => decide (x ≤ y)) (by rw [hlen, List.length_map]) hB hb (by rw [List.length_map]; exact h1) h2 h3
      rw [List.length_map, enc_strs] at this
      unfold OwnS
      rw [List.length_map, hlen]
      exact this
    · subst hw
      exact grownBy_sorted _
end Go.Proofs.YtbhfbdcmamodcaaGreatDoor
namespace Go.Proofs.YtbhfbdcmamodcaaGreatDoor
open Go.RowKit Go.Maps Go.Sort
theorem ownS_mono {w : World} {B C : Nat} {v : Value} {l : List ByteArray} (h : OwnS w B v l) (hC : C ≤ B) : OwnS w C v l := by
  obtain ⟨h1, h2⟩ := h
  refine ⟨h1, ?_⟩
  rcases h2 with h2 | ⟨g, cap, cur, rfl, hb, r⟩
  · exact .inl h2
  · exact .inr ⟨g, cap, cur, rfl, by omega, r⟩
structure Come (D : DataW Unit) (ns : List ByteArray) (left : Lit → Bool) : Prop where
  nodup : ns.Nodup
  mem : ∀ s, s ∈ ns ↔ (Maps.has D (keyF s) = true ∧ left (keyF s) = false)
theorem Come.start (D : DataW Unit) : Come D [] (Maps.has D) := ⟨List.nodup_nil, fun s => by simp⟩
theorem Come.step {D : DataW Unit} {ns : List ByteArray} {left : Lit → Bool} (h : Come D ns left) {x : ByteArray} {d : DataW Unit} (hl : left (keyF x) = true) (hat : ∀ zd, D.atKey (keyF x) zd = d) : Come D (ns ++ [x]) (fun z => left z && !z.sameKey (keyF x)) := by
  have hx : x ∉ ns := fun hm => by have := ((h.mem x).1 hm).2; rw [hl] at this; cases this
  refine ⟨?_, fun s => ?_⟩
  · rw [List.nodup_append]
    refine ⟨h.nodup, by simp, fun a ha b hb e => ?_⟩
    simp at hb
    subst hb; subst e
    exact hx ha
  · rw [List.mem_append, List.mem_singleton, h.mem]
    by_cases e : s = x
    · subst e
      simp [WideAt.sameKey_self (keyF_ok s), Maps.has_true_of_atKey hat]
    · have : (keyF s).sameKey (keyF x) = false := Maps.sameKey_ne fun k => e (keyF_inj k)
      simp [this, e]
theorem Come.done {D : DataW Unit} {ns : List ByteArray} {left : Lit → Bool} {fs : List FileE} (h : Come D ns left) (hl : ∀ kl, left kl = false) (hR : Reads D fs) : ns.Perm (fs.map (·.name)) := by
  refine (List.perm_ext_iff_of_nodup h.nodup hR.nodup).2 fun s => ?_
  rw [h.mem, hR.has]
  simp [hl]
theorem ranges_alloc {P : Program} {k : TypeId} {R : Value → Option (DataW Unit × List MemPlace)} {w x : World} {b r n : Nat} {D : DataW Unit} {left : Lit → Bool} {cnt : Nat} (h : w.ranges P k R b r n D left cnt) (hb : Below w.heap.size w x) : x.ranges P k R b r n D left cnt := by
  refine h.kept (row := none) ⟨hb.os, hb.tape, hb.output, hb.size, fun i hi _ => hb.block i hi⟩ (by simp) (by simp)
set_option maxHeartbeats 4000000 in
set_option maxRecDepth 100000 in
theorem dNames (p q : Nat) (F : Foot) (v : View) (w : World) (h : Disk w p F v q) (hv : v ≠ []) (hl : v.length ≤ 1000) :
    Calls Tryz.prog 18 #[.pointer (some ⟨p, 0, none⟩)] w fun e w' => ∃ val ns, e = .returned val ∧ ns.Perm (v.map Prod.fst) ∧ OwnS w' w.heap.size val ns ∧ Below w.heap.size w w' := by
  obtain ⟨d, hd, rfl, rfl, hpn⟩ := h
  rw [view_names]
  obtain ⟨c1, c3, hb⟩ := hd.box
  obtain ⟨D, hD, hR⟩ := hd.map
  obtain ⟨i0, hi, hz0, hz1, hz2⟩ := info_parts infoStr
  have c2 : w.cell? ⟨p, 2, none⟩ = some (.map (some d.m)) := by rw [cell_of_row _ _ _ _ _ _ hb]; rfl
  have c6 : w.cell? ⟨p, 6, none⟩ = some (.bool false) := by rw [cell_of_row _ _ _ _ _ _ hb]; rfl
  have hne : d.fs ≠ [] := fun e => hv (by unfold DiskS.view; rw [e]; rfl)
  have hfl : d.fs.length ≤ 1000 := by simpa [DiskS.view] using hl
  obtain ⟨N, hN⟩ : ∃ N, d.fs.length = N := ⟨_, rfl⟩
  have hsz := hR.size
  rw [hN] at hD hfl hsz
  have HN := Lib.hid hN
  have HR := Lib.hid hR
  have HD := Lib.hid hD
  have hml := hD.lt
  have HNE := Lib.hid hne
  clear hd hb hD hR hN hv hl hne
  go_enter Tryz.func18, Tryz.ntmps18
  go_wp2_with (at_range; refine wpList_range_own _ rfl _ 70 rfl 9 105 (string_keyed Tryz.underlying9) Tryz.underlying70 fileR d.m N D rfl HD.out ?_; intro w0 hrg0 hg0 hs0; have HRG := Lib.hid hrg0; have HB0 := Lib.hid (grown_belowN hg0); have HS0 := Lib.hid hs0; clear hrg0 hg0 hs0)
  go_frame
  go_loopw [3] (fun nv wv => ∃ (left : Lit → Bool) (cnt : Nat) (u : Value) (ns : List ByteArray), u = nv ∧ OwnS wv (w.heap.size + 1) u ns ∧ wv.ranges Tryz.prog 9 fileR d.m w.heap.size N D left cnt ∧ ns.length + cnt ≤ N ∧ Come D ns left ∧ Below w.heap.size w wv ∧ w.heap.size < wv.heap.size) (fun _ wv => wv.rangeLeft d.m w.heap.size)
  case atStart => exact ⟨_, _, _, [], rfl, OwnS.nil _ _, HRG.out, by rw [hsz]; simp, Come.start D, HB0.out, by rw [HS0.out]; omega⟩
  case round =>
    obtain ⟨wv, rfl⟩ : ∃ wv : World, wv = wr := ⟨_, rfl⟩
    obtain ⟨left, cnt, u, ns, hu, hown, hrg, hle, hco, hbv, hwz⟩ := hrel
    subst hu
    have HRV := Lib.hid hrg; have HBV := Lib.hid hbv; have HO := Lib.hid hown; have HC := Lib.hid hco
    clear hrg hbv hown hco
    go_wp2_with (at_next; refine wpList_next_ranges (α := ByteArray) (β := Option Addr) _ rfl _ rfl 9 (string_keyed Tryz.underlying9) fileR Value.string Value.pointer (fun key kl hk => by obtain ⟨s, e, _⟩ := keyOf_name Tryz.underlying9 hk; exact ⟨s, e⟩) (fun v y hv => fileR_ptr hv) d.m w.heap.size N D _ _ rfl HRV.out ?_ ?_)
    · intro hc0 hl0
      have hp := HC.out.done hl0 HR.out
      have hns : ns ≠ [] := fun e => by
        have := hp.length_eq
        rw [e] at this
        exact HNE.out (List.length_eq_zero_iff.1 (by simpa using this.symm))
      have HP := Lib.hid hp
      have HST := Lib.hid (sSortNames ns (w.heap.size + 1) u wv HO.out hns (by omega))
      clear hl0 hp hns
      go_wp2_with fail
      (with_reducible refine HST.out.mono ?_)
      rintro e w5 ⟨rfl, ms, hms, hown, hg⟩
      have HMS := Lib.hid hms; have HO5 := Lib.hid hown
      have HB5 := Lib.hid (show Below w.heap.size w w5 from ⟨hg.os.trans HBV.out.os, hg.tape.trans HBV.out.tape, hg.output.trans HBV.out.output, Nat.le_trans HBV.out.size hg.size, fun i hi => (hg.block i (Nat.lt_of_lt_of_le hi HBV.out.size) (fun e => by have := (HO.out.lt i e.symm).1; omega)).trans (HBV.out.block i hi)⟩)
      clear hms hown hg
      go_wp2
      go_ret
      exact ⟨_, ms, rfl, HMS.out.trans HP.out, ownS_mono HO5.out (by omega), HB5.out⟩
    · intro x c kl y1 y2 w4 cnt1 hkey hlx hRv hat hrg1 hlt hg1 hs1 hen
      obtain ⟨s, hse, hkl, hxz⟩ := keyOf_name Tryz.underlying9 hkey
      obtain rfl : x = s := by simpa using hse
      subst hkl
      have HC4 := Lib.hid (HC.out.step hlx hat)
      have HB4 := Lib.hid (HBV.out.trans (grown_below hg1 (Nat.le_refl _) HBV.out.size))
      have HRG4 := Lib.hid hrg1
      have HO4 := Lib.hid (show OwnS w4 (w.heap.size + 1) u ns from row_stays HO.out fun g e => hg1.block g (HO.out.lt g e).2 (fun k => by cases k; have := (HO.out.lt w.heap.size e).1; omega))
      have hz4 : w.heap.size < w4.heap.size := by omega
      clear hkey hRv hat hrg1 hg1 hse hs1 hlx
      go_wp2_with (at_builtin; refine wpList_append_lies _ rfl (.tmp 23) (.tmp 25) 24 rfl (w.heap.size + 1) 9 i0 (.string ⟨#[]⟩) 1 16 Tryz.underlying24 hi hz0 hz1 hz2 rfl (by decide) u ns.length (strsV ns) rfl (HO4.out.nb rfl (bl_alloc (Below.refl _ w4) _)) _ 1 1 [.string x] rfl rfl (cells_new w4 [.string x] _ rfl) (by intro u hu; rw [List.mem_singleton.1 hu]; rfl) (by decide) (by unfold maxLen; omega) (by omega) (by simp; omega) _ rfl ?_; intro gg cp w5 hown hg hat hlt5; have HO5 := Lib.hid (OwnS.push hown rfl); have HG5 := Lib.hid hg; clear hown hg hat hlt5)
      have hrb : ∀ g, u.ownBlock = some g → w.heap.size < g := fun g e => (HO4.out.lt g e).1
      have HRG5 := Lib.hid ((ranges_alloc HRG4.out (bl_alloc (Below.refl _ w4) _)).kept HG5.out (fun e => by have := hrb _ e.symm; omega) (fun e => by have := hrb _ e.symm; omega))
      have HB5 := Lib.hid (bel_grown HB4.out HB4.out.size (bl_alloc (Below.refl _ w4) _) HG5.out (fun i hi => Nat.le_of_lt (hrb i hi)))
      have hz5 : w.heap.size < w5.heap.size := by have := HG5.out.size; simp at this; omega
      go_roundw
      case rel => exact ⟨_, cnt1, _, ns ++ [x], rfl, HO5.out, HRG5.out, by simp; omega, HC4.out, HB5.out, hz5⟩
      case measure => rw [HRG5.out.left_eq, HRV.out.left_eq]; exact hlt
end Go.Proofs.YtbhfbdcmamodcaaGreatDoor
