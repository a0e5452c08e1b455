/- The tied card of pedigreetop.WholeLong: for every input the law returns true, and each argument reads afterwards as before. The listed package-level variables are tied to the program's text. No condition is typed. -/
import Derived.Test.YtbhfbdcmamodcaaGreatDoorL52
import Derived.Test.YtbhfbdcmamodcaaGreatDoorL19
import Derived.Test.YtbhfbdcmamodcaaGreatDoorTie
import Derived.Test.YtbhfbdcmamodcaaGreatDoorCards
import Derived.ProofKit
import Derived.LaidMore
import Derived.MakeChecks
import Derived.OpenShut
import Derived.ChangeOld
import Derived.Below
import Derived.Stop.Joined
import Derived.SevenTiedAt
set_option linter.unusedVariables false
set_option linter.unusedSimpArgs false
namespace Go.Proofs.YtbhfbdcmamodcaaGreatDoor.lawWholeLong
open Go.ChangeShapes Go.WideShapes Go.ChangeAt Go.WideMaps Go.WideElems Go.RowKit
open Go.ChangeMaps (open_string shut_string)
set_option linter.unusedVariables false
theorem own : ownKnob Tryz.prog.godebug = none := by kernel_rfl
theorem laidOut : laidOutB Tryz.prog = true := by kernel_rfl
theorem gErr : Tryz.prog.globalNamed "strconv.ErrSyntax" = some (nmLaysC172_ren.g 15) := by kernel_rfl
theorem tErr : ((Tryz.prog.globals[nmLaysC172_ren.g 15]?).map fun x => Tryz.prog.underlying x.type) = some (Tryz.prog.underlying 252) := by kernel_rfl
theorem door_met (os : Os) (args : Array Value) : laidMetH Tryz.prog Rows.wholeLongRow.laid ((World.doorLaid Tryz.prog 400 os).forCall (fun _ _ => 0) ⟨#[], args, []⟩).memory :=
  laidMetH_of_parts3 (fuel := 8) (laidMet_of_run' 8 (by kernel_rfl) (by kernel_rfl)) (by kernel_rfl) (by kernel_rfl)
theorem ifaceForm {H : Type} {enc : TypeId × Value → H} {P : Program} {w : World} {base : Nat} {sp : Nat → Bool} {held : Bool} {fuel : Nat} {t : TypeId} {ms : Array (String × TypeId)} {cs : List Value} {x : DataW H × List MemPlace} (ht : P.underlying t = some (.interface ms)) (h : DataW.trod enc P w base sp held fuel t cs = some x) :
    cs = [.nilIface] ∨ ∃ u v, cs = [.iface u v] := by
  cases fuel with
  | zero => simp [DataW.trod] at h
  | succ n =>
    match cs with
    | [] => simp [DataW.trod, ht] at h
    | [c] =>
      cases c with
      | nilIface => exact .inl rfl
      | iface u v => exact .inr ⟨u, v, rfl⟩
      | _ => simp [DataW.trod, ht] at h
    | _ :: _ :: _ => simp [DataW.trod, ht] at h
set_option maxRecDepth 100000 in
theorem syn_of_laid {W : World} (h : laidMetH Tryz.prog Rows.wholeLongRow.laid W) : SynOk W := by
  rw [MakeChecks.laidMetH_plain _ _ _ (by kernel_rfl)] at h
  obtain ⟨ps, ⟨g0, t0, cs0, f0, p0, q0, hg0, ht0, hv0, hd0, ⟨g1, t1, cs1, f1, p1, q1, hg1, ht1, hv1, hd1, ⟨g2, t2, cs2, f2, p2, q2, hg2, ht2, hv2, hd2, ⟨g3, t3, cs3, f3, p3, q3, hg3, ht3, hv3, hd3, ⟨g4, t4, cs4, f4, p4, q4, hg4, ht4, hv4, hd4, _, _⟩, _⟩, _⟩, _⟩, _⟩, _, _⟩ := h
  obtain rfl := Option.some.inj (gErr.symm.trans hg4)
  have hu : Tryz.prog.underlying t4 = Tryz.prog.underlying 252 := by
    have h1 := tErr
    cases hq : Tryz.prog.globals[nmLaysC172_ren.g 15]? with
    | none => rw [hq] at ht4; simp at ht4
    | some g =>
      rw [hq] at ht4 h1
      simp at ht4 h1
      rw [← ht4]
      exact h1
  have hc := World.var?_cell hg4 hv4 0
  rcases ifaceForm (hu.trans Tryz.underlying252) hd4 with e | ⟨u, v, e⟩
  · rw [Array.eq_one_of_toList e] at hc
    exact ⟨.nilIface, by simpa using hc, .inl rfl⟩
  · rw [Array.eq_one_of_toList e] at hc
    exact ⟨.iface u v, by simpa using hc, .inr ⟨u, v, rfl⟩⟩
theorem intForm {H : Type} {enc : TypeId × Value → H} {P : Program} {w : World} {base : Nat} {sp : Nat → Bool} {held : Bool} {fuel : Nat} {t : TypeId} {k : IntKind} {cs : List Value} {x : DataW H × List MemPlace} (ht : P.underlying t = some (.int k)) (h : DataW.trod enc P w base sp held fuel t cs = some x) :
    ∃ z, cs = [.int k z] ∧ x.1 = .lit (.int k z) := by
  cases fuel with
  | zero => simp [DataW.trod] at h
  | succ n =>
    match cs with
    | [] => simp [DataW.trod, ht] at h
    | [c] =>
      cases c with
      | int k' z =>
        simp [DataW.trod, ht] at h
        obtain ⟨⟨rfl, _⟩, rfl⟩ := h
        exact ⟨z, rfl, rfl⟩
      | _ => simp [DataW.trod, ht] at h
    | _ :: _ :: _ => simp [DataW.trod, ht] at h
theorem gTz : Tryz.prog.globalNamed "math/bits.deBruijn64tab" = some (nmLays729_ren.g 1) := by kernel_rfl
theorem tTz : ((Tryz.prog.globals[nmLays729_ren.g 1]?).map fun x => Tryz.prog.underlying x.type) = some (some (.array 64 5)) := by kernel_rfl
theorem cTz : Tryz.prog.cellsOf 5 = 1 := by kernel_rfl
theorem laidTz {H : Type} : (Rows.laid_math_bits_deBruijn64tab : DataW H) = .agg (Lib.deBruijn64tab.map fun n => .lit (.int .u8 (n : Nat))) := rfl
set_option maxRecDepth 100000 in
theorem tz_of_laid {W : World} (h : laidMetH Tryz.prog Rows.wholeLongRow.laid W) : TzOk W := by
  rw [MakeChecks.laidMetH_plain _ _ _ (by kernel_rfl)] at h
  obtain ⟨ps, ⟨g0, t0, cs0, f0, p0, q0, hg0, ht0, hv0, hd0, ⟨g1, t1, cs1, f1, p1, q1, hg1, ht1, hv1, hd1, _⟩, _⟩, _⟩ := h
  obtain rfl := Option.some.inj (gTz.symm.trans hg1)
  have hu : Tryz.prog.underlying t1 = some (.array 64 5) := by
    have h1 := tTz
    cases hq : Tryz.prog.globals[nmLays729_ren.g 1]? with
    | none => rw [hq] at ht1; simp at ht1
    | some g =>
      rw [hq] at ht1 h1
      simp at ht1 h1
      rw [← ht1]
      exact h1
  obtain ⟨xs, m, _, hx, hlen, hxl, hall⟩ := DataW.trod_array hu hd1
  have hx1 := congrArg Prod.fst hx
  rw [laidTz] at hx1
  have hl : Lib.deBruijn64tab.map (fun n => (DataW.lit (Lit.int .u8 (n : Nat)))) = xs.map (·.1) := by injection hx1
  intro j hj
  have hj64 : j < 64 := hj
  have ha := hall j hj64
  rw [cTz, Nat.mul_one] at ha
  rw [List.getElem?_eq_getElem (by omega)] at ha
  obtain ⟨z, e1, e2⟩ := intForm Tryz.underlying5 ha
  have hz := congrArg (fun l => l[j]?) hl
  simp only [List.getElem?_map] at hz
  rw [List.getElem?_eq_getElem (show j < xs.length by omega), List.getElem?_eq_getElem hj] at hz
  simp only [Option.map_some, Option.some.injEq] at hz
  rw [e2] at hz
  have hzz : z = ((Lib.deBruijn64tab[j]'hj : Nat) : Int) := by injection hz with hz; injection hz with _ hz; exact hz.symm
  have hc := World.var?_cell hg1 hv1 j
  rw [List.getD_eq_getElem?_getD, List.getElem?_eq_getElem hj]
  show _ = some (Value.int .u8 ((Lib.deBruijn64tab[j]'hj : Nat) : Int))
  rw [← hzz]
  have hcj : cs1.toList[j]? = some (Value.int .u8 z) := by
    have := congrArg (fun l : List Value => l[0]?) e1
    simpa using this
  rw [← hcj]
  simpa using hc
theorem u16sOf {H : Type} {enc : TypeId × Value → H} {P : Program} {w : World} {t e : TypeId} {a : Option Addr} {len cap : Nat} {d : DataW H} {ps : List MemPlace} (ht : P.underlying t = some (.slice e)) (he : P.underlying e = some (.int .u16)) (hc : P.cellsOf e = 1)
    (h : DataW.Trod enc P w 0 (fun _ => true) true t (.slice a len cap) d ps) : ∃ bs : List Nat, len = bs.length ∧ bs.length ≤ cap ∧ cap ≤ maxLen ∧ CellsAt w a (bs.map fun p => Value.int .u16 (p : Nat)) ∧ ∀ b ∈ bs, b < 65536 := by
  have hcap : len ≤ cap ∧ cap ≤ maxLen := by
    obtain ⟨fuel, hf⟩ := h
    rcases open_ints ht he hc hf with ⟨hcs, hx⟩ | ⟨x, l, c, zs, hcs, _, hl, hm, hz, hx, hcell, hws⟩
    · simp [Value.cells] at hcs
      obtain ⟨rfl, rfl, rfl⟩ := hcs
      exact ⟨Nat.le_refl _, Nat.zero_le _⟩
    · simp [Value.cells] at hcs
      obtain ⟨rfl, rfl, rfl⟩ := hcs
      exact ⟨hl, hm⟩
  obtain ⟨zs, hzl, _, hz, _⟩ := intsOf ht he hc h
  have hb : ∀ i (hi : i < zs.length), 0 ≤ zs[i] ∧ zs[i] ≤ 65535 := fun i hi => bounds_u16 (hz i hi).1
  refine ⟨zs.map Int.toNat, by rw [List.length_map, hzl], by rw [List.length_map, hzl]; exact hcap.1, hcap.2, fun j v hj => ?_, fun b hb2 => ?_⟩
  · obtain ⟨hl, hv⟩ := List.getElem?_eq_some_iff.1 hj
    have hl' : j < zs.length := by simpa using hl
    obtain ⟨_, b, off, h1, h2⟩ := hz j hl'
    refine ⟨b, off, h1, World.block_lt_of_cell? w _ h2, ?_⟩
    rw [h2, ← hv]
    simp only [List.getElem_map]
    have := hb j hl'
    congr 2
    omega
  · obtain ⟨z, hzm, rfl⟩ := List.mem_map.1 hb2
    obtain ⟨i, hi, rfl⟩ := List.mem_iff_getElem.1 hzm
    have := hb i hi
    omega
set_option maxRecDepth 100000 in
theorem lifted (os : Os) (started : os.Started) (H : Type) (enc : TypeId × Value → H) :
    ReturnsInHanded {} Tryz.checked os 4 .any (fun w args => (Rows.wholeLongSpec.pre enc Tryz.prog Tryz.f4 [] false w args ∧ laidMetH Tryz.prog Rows.wholeLongRow.laid w) ∧ sizedMet enc Tryz.prog Tryz.f4 (OpenSpec.ofChange Rows.wholeLongSpec) false w args)
      (Rows.wholeLongSpec.post enc Tryz.prog Tryz.f4 false true false false) := by
  refine returnsInHanded_of_change_and (C := Tryz.checked) (X := fun w _ => laidMetH Tryz.prog Rows.wholeLongRow.laid w) (fun _ _ _ hh h => h.of_heap hh) own started (by kernel_rfl) Tryz.func4
    (ChangeSpec.witness_shaped (enc := enc) (C := Tryz.checked) (os := os) (X := fun w _ => laidMetH Tryz.prog Rows.wholeLongRow.laid w) false (World.doorLaid Tryz.prog 400 os) #[.int .u16 0, .slice none 0 0, .int .u16 0] 8 rfl (World.shaped_of_RefB (by kernel_rfl) (by kernel_rfl)) (by kernel_rfl) (by kernel_rfl) (by kernel_rfl) (door_met os _)) ?_
  intro W base args ds gs before hval0 hW _ _ hL _
  have hval : ∀ (j : Nat) t v, Tryz.f4.params[j]? = some t → args[j]? = some v → Value.okWide Tryz.prog W .any base t v := hval0
  have hW' := hW
  obtain ⟨p, q, hA0, hV, rfl, hfz, hnd⟩ := hW
  have hA : DataW.TrodAll enc Tryz.prog W 0 (fun _ => true) true Tryz.f4.params.toList args.toList ds p := hA0
  rw [Tryz.params4] at hA hval
  obtain ⟨v0, vs0, d0, ds0, p0, q0, hargs, rfl, rfl, h0, r0⟩ := trodAll_cons hA
  obtain ⟨v1, vs1, d1, ds1, p1, q1, rfl, rfl, rfl, h1, r1⟩ := trodAll_cons r0
  obtain ⟨v2, vs2, d2, ds2, p2, q2, rfl, rfl, rfl, h2, r2⟩ := trodAll_cons r1
  obtain ⟨rfl, rfl, rfl⟩ := trodAll_nil r2
  obtain rfl : args = #[v0, v1, v2] := by cases args; simp_all
  obtain ⟨rfl, rfl⟩ := trodVars_none hV
  have k0 := h0
  have lt0 : ∀ x ∈ p0, x.block < W.heap.size := by obtain ⟨m, hm⟩ := k0; exact DataW.trod_lt m _ _ _ hm
  have k1 := h1
  have lt1 : ∀ x ∈ p1, x.block < W.heap.size := by obtain ⟨m, hm⟩ := k1; exact DataW.trod_lt m _ _ _ hm
  have k2 := h2
  have lt2 : ∀ x ∈ p2, x.block < W.heap.size := by obtain ⟨m, hm⟩ := k2; exact DataW.trod_lt m _ _ _ hm
  obtain ⟨n0, rfl, rfl, rfl, w0⟩ := open_int Tryz.underlying35 (hval 0 35 v0 rfl rfl) h0
  have b0 := bounds_u16 w0
  obtain ⟨n2, rfl, rfl, rfl, w2⟩ := open_int Tryz.underlying35 (hval 2 35 v2 rfl rfl) h2
  have b2 := bounds_u16 w2
  obtain ⟨a1, len1, cap1, rfl⟩ := okWide_slice Tryz.underlying57 (hval 1 57 v1 rfl rfl)
  obtain ⟨bs, hbl, hbc, hbm, hbt, hbv⟩ := u16sOf Tryz.underlying57 Tryz.underlying35 (by kernel_rfl) k1
  subst hbl
  have hsyn := syn_of_laid hL
  have htz := tz_of_laid hL
  clear hA0 hval0
  obtain ⟨m0, rfl⟩ : ∃ m : Nat, n0 = (m : Int) := ⟨n0.toNat, by omega⟩
  obtain ⟨m2, rfl⟩ : ∃ m : Nat, n2 = (m : Int) := ⟨n2.toNat, by omega⟩
  refine (wholeLong m0 m2 (by omega) (by omega) bs a1 cap1 hbc hbm W hbt hbv hsyn htz).mono fun e W' ⟨he, bel⟩ => ?_
  subst he
  exact ⟨_, rfl, _, _, _, [], _, [], hW', trodAll_mk1 (shut_bool Tryz.underlying4 _), (trodAll_cons_mk (Below.trod laidOut (by kernel_rfl) (of_decide_eq_true (by kernel_rfl)) k0 bel lt0) (trodAll_cons_mk (Below.trod laidOut (by kernel_rfl) (of_decide_eq_true (by kernel_rfl)) k1 bel lt1) (trodAll_cons_mk (Below.trod laidOut (by kernel_rfl) (of_decide_eq_true (by kernel_rfl)) k2 bel lt2) trodAll_mk0))), rfl, bel.frame _, fun h => by cases h⟩
theorem said : Rows.WholeLongSaid :=
  OpenClaim.holds_of_wide 4 Tryz.f4 rfl rfl rfl rfl rfl rfl rfl ⟨rfl, rfl, rfl, rfl, rfl⟩ rfl rfl rfl rfl rfl (by kernel_rfl) Tryz.func4 (by kernel_rfl)
    (of_decide_eq_true (by kernel_rfl)) (by unfold Func.isWrapper; first | (rw [if_pos (by decide +kernel)]; kernel_rfl) | (rw [if_neg (by decide +kernel)]; exact ⟨rfl, rfl⟩))
    (fun os started H enc _ => lifted os started H enc)
theorem proved : Rows.WholeLongCardSaid :=
  Claim7.holds_tied_plain_at .later [] [.data, .data, .data, .sentinel, .sentinel] true (true, "fa42036bb3dcd10b89f3b06505bf1e68ae23182a86f095fa1e272fbc2bb1d527") true
    said (fun _ h => by cases h) (by kernel_rfl) (fun _ h => by cases h) wholeLong_row_tie rfl ⟨rfl, rfl⟩ (by kernel_rfl) rfl
    (fun f fn hf hfn => by
      obtain rfl : f = 4 := Option.some.inj ((show Tryz.prog.funcNamed "pedigree/pedigreetop.WholeLong" = some 4 by kernel_rfl).symm.trans hf) |>.symm
      obtain rfl : fn = Tryz.f4 := (Option.some.inj (Tryz.func4.symm.trans hfn)).symm
      exact ⟨by kernel_rfl, fun j t ht => by
        rw [Tryz.params4] at ht
        have hm : t ∈ [35, 57, 35] := by simpa using Array.mem_of_getElem? ht
        have hall : ([35, 57, 35].all fun u => !Tryz.prog.wantsStandIn u) = true := by kernel_rfl
        exact (show Tryz.prog.wantsStandIn t = false by simpa using List.all_eq_true.1 hall t hm)⟩)
    (by kernel_rfl)
#print axioms proved
end Go.Proofs.YtbhfbdcmamodcaaGreatDoor.lawWholeLong
