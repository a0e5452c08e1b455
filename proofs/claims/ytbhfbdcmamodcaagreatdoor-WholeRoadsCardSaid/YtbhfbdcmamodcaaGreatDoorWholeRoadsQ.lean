/- The tied card of pedigreetop.WholeRoads: for every input the law returns true, and each argument reads afterwards as before. The listed package-level variables are tied to the program's text. No condition is typed. -/
import Derived.Test.YtbhfbdcmamodcaaGreatDoorR18
import Derived.Test.YtbhfbdcmamodcaaGreatDoorR34
import Derived.Test.YtbhfbdcmamodcaaGreatDoorR50
import Derived.Test.YtbhfbdcmamodcaaGreatDoorTie
import Derived.Test.YtbhfbdcmamodcaaGreatDoorCards
import Derived.ProofKit
import Derived.LaidMore
import Derived.MakeChecks
import Derived.OpenShut
import Derived.ChangeOld
import Derived.Below
import Derived.Stop.Joined
import Derived.SevenTiedAt
set_option linter.unusedVariables false
set_option linter.unusedSimpArgs false
namespace Go.Proofs.YtbhfbdcmamodcaaGreatDoor.lawWholeRoads
open Go.ChangeShapes Go.WideShapes Go.ChangeAt Go.WideMaps Go.WideElems Go.RowKit
open Go.ChangeMaps (open_string shut_string)
set_option linter.unusedVariables false
theorem own : ownKnob Tryz.prog.godebug = none := by kernel_rfl
theorem laidOut : laidOutB Tryz.prog = true := by kernel_rfl
theorem gErr : Tryz.prog.globalNamed "strconv.ErrSyntax" = some (nmLaysC172_ren.g 15) := by kernel_rfl
theorem tErr : ((Tryz.prog.globals[nmLaysC172_ren.g 15]?).map fun x => Tryz.prog.underlying x.type) = some (Tryz.prog.underlying 252) := by kernel_rfl
theorem door_met (os : Os) (args : Array Value) : laidMetH Tryz.prog Rows.wholeRoadsRow.laid ((World.doorLaid Tryz.prog 400 os).forCall (fun _ _ => 0) ⟨#[], args, []⟩).memory :=
  laidMetH_of_parts3 (fuel := 8) (laidMet_of_run' 8 (by kernel_rfl) (by kernel_rfl)) (by kernel_rfl) (by kernel_rfl)
theorem ifaceForm {H : Type} {enc : TypeId × Value → H} {P : Program} {w : World} {base : Nat} {sp : Nat → Bool} {held : Bool} {fuel : Nat} {t : TypeId} {ms : Array (String × TypeId)} {cs : List Value} {x : DataW H × List MemPlace} (ht : P.underlying t = some (.interface ms)) (h : DataW.trod enc P w base sp held fuel t cs = some x) :
    cs = [.nilIface] ∨ ∃ u v, cs = [.iface u v] := by
  cases fuel with
  | zero => simp [DataW.trod] at h
  | succ n =>
    match cs with
    | [] => simp [DataW.trod, ht] at h
    | [c] =>
      cases c with
      | nilIface => exact .inl rfl
      | iface u v => exact .inr ⟨u, v, rfl⟩
      | _ => simp [DataW.trod, ht] at h
    | _ :: _ :: _ => simp [DataW.trod, ht] at h
set_option maxRecDepth 100000 in
theorem syn_of_laid {W : World} (h : laidMetH Tryz.prog Rows.wholeRoadsRow.laid W) : SynOk W := by
  rw [MakeChecks.laidMetH_plain _ _ _ (by kernel_rfl)] at h
  obtain ⟨ps, ⟨g0, t0, cs0, f0, p0, q0, hg0, ht0, hv0, hd0, ⟨g1, t1, cs1, f1, p1, q1, hg1, ht1, hv1, hd1, ⟨g2, t2, cs2, f2, p2, q2, hg2, ht2, hv2, hd2, ⟨g3, t3, cs3, f3, p3, q3, hg3, ht3, hv3, hd3, ⟨g4, t4, cs4, f4, p4, q4, hg4, ht4, hv4, hd4, _, _⟩, _⟩, _⟩, _⟩, _⟩, _, _⟩ := h
  obtain rfl := Option.some.inj (gErr.symm.trans hg4)
  have hu : Tryz.prog.underlying t4 = Tryz.prog.underlying 252 := by
    have h1 := tErr
    cases hq : Tryz.prog.globals[nmLaysC172_ren.g 15]? with
    | none => rw [hq] at ht4; simp at ht4
    | some g =>
      rw [hq] at ht4 h1
      simp at ht4 h1
      rw [← ht4]
      exact h1
  have hc := World.var?_cell hg4 hv4 0
  rcases ifaceForm (hu.trans Tryz.underlying252) hd4 with e | ⟨u, v, e⟩
  · rw [Array.eq_one_of_toList e] at hc
    exact ⟨.nilIface, by simpa using hc, .inl rfl⟩
  · rw [Array.eq_one_of_toList e] at hc
    exact ⟨.iface u v, by simpa using hc, .inr ⟨u, v, rfl⟩⟩
set_option maxRecDepth 100000 in
theorem lifted (os : Os) (started : os.Started) (H : Type) (enc : TypeId × Value → H) :
    ReturnsInHanded {} Tryz.checked os 3 .any (fun w args => (Rows.wholeRoadsSpec.pre enc Tryz.prog Tryz.f3 [] false w args ∧ laidMetH Tryz.prog Rows.wholeRoadsRow.laid w) ∧ sizedMet enc Tryz.prog Tryz.f3 (OpenSpec.ofChange Rows.wholeRoadsSpec) false w args)
      (Rows.wholeRoadsSpec.post enc Tryz.prog Tryz.f3 false true false false) := by
  refine returnsInHanded_of_change_and (C := Tryz.checked) (X := fun w _ => laidMetH Tryz.prog Rows.wholeRoadsRow.laid w) (fun _ _ _ hh h => h.of_heap hh) own started (by kernel_rfl) Tryz.func3
    (ChangeSpec.witness_shaped (enc := enc) (C := Tryz.checked) (os := os) (X := fun w _ => laidMetH Tryz.prog Rows.wholeRoadsRow.laid w) false (World.doorLaid Tryz.prog 400 os) #[.slice none 0 0, .slice none 0 0] 8 rfl (World.shaped_of_RefB (by kernel_rfl) (by kernel_rfl)) (by kernel_rfl) (by kernel_rfl) (by kernel_rfl) (door_met os _)) ?_
  intro W base args ds gs before hval0 hW _ _ hL _
  have hval : ∀ (j : Nat) t v, Tryz.f3.params[j]? = some t → args[j]? = some v → Value.okWide Tryz.prog W .any base t v := hval0
  have hW' := hW
  obtain ⟨p, q, hA0, hV, rfl, hfz, hnd⟩ := hW
  have hA : DataW.TrodAll enc Tryz.prog W 0 (fun _ => true) true Tryz.f3.params.toList args.toList ds p := hA0
  rw [Tryz.params3] at hA hval
  obtain ⟨v0, vs0, d0, ds0, p0, q0, hargs, rfl, rfl, h0, r0⟩ := trodAll_cons hA
  obtain ⟨v1, vs1, d1, ds1, p1, q1, rfl, rfl, rfl, h1, r1⟩ := trodAll_cons r0
  obtain ⟨rfl, rfl, rfl⟩ := trodAll_nil r1
  obtain rfl : args = #[v0, v1] := by cases args; simp_all
  obtain ⟨rfl, rfl⟩ := trodVars_none hV
  have k0 := h0
  have lt0 : ∀ x ∈ p0, x.block < W.heap.size := by obtain ⟨m, hm⟩ := k0; exact DataW.trod_lt m _ _ _ hm
  have k1 := h1
  have lt1 : ∀ x ∈ p1, x.block < W.heap.size := by obtain ⟨m, hm⟩ := k1; exact DataW.trod_lt m _ _ _ hm
  obtain ⟨a0, len0, cap0, rfl⟩ := okWide_slice Tryz.underlying22 (hval 0 22 v0 rfl rfl)
  obtain ⟨l0, e0, lc0, lm0, w0, wd0⟩ := stepsOf Tryz.underlying22 Tryz.underlying37 (by kernel_rfl) (by kernel_rfl) Tryz.underlying34 Tryz.underlying86 (by kernel_rfl) (by kernel_rfl) Tryz.underlying9 Tryz.underlying47 Tryz.underlying23 Tryz.underlying5 (by kernel_rfl) Tryz.underlying5 Tryz.underlying5 Tryz.underlying35 k0
  subst e0
  obtain ⟨a1, len1, cap1, rfl⟩ := okWide_slice Tryz.underlying23 (hval 1 23 v1 rfl rfl)
  obtain ⟨z1, e1, lm1, w1, hd1⟩ := intsOf Tryz.underlying23 Tryz.underlying5 (by kernel_rfl) k1
  obtain ⟨bs, hbs, hb8, hbc⟩ := bytes_nat w1
  subst e1
  have hbl : z1.length = bs.length := by rw [hbs, List.length_map]
  have hsyn := syn_of_laid hL
  clear hA0 hval0
  refine (show Calls Tryz.prog 3 #[.slice a0 l0.length cap0, .slice a1 z1.length cap1] W fun e w' => e = .returned (.bool true) ∧ Below W.heap.size W w' from by rw [hbl]; exact wholeRoads l0 a0 cap0 lc0 lm0 bs a1 cap1 W w0 wd0 hbc hb8 hsyn).mono fun e W' ⟨he, bel⟩ => ?_
  subst he
  exact ⟨_, rfl, _, _, _, [], _, [], hW', trodAll_mk1 (shut_bool Tryz.underlying4 _), (trodAll_cons_mk (Below.trod laidOut (by kernel_rfl) (of_decide_eq_true (by kernel_rfl)) k0 bel lt0) (trodAll_cons_mk (Below.trod laidOut (by kernel_rfl) (of_decide_eq_true (by kernel_rfl)) k1 bel lt1) trodAll_mk0)), rfl, bel.frame _, fun h => by cases h⟩
theorem said : Rows.WholeRoadsSaid :=
  OpenClaim.holds_of_wide 3 Tryz.f3 rfl rfl rfl rfl rfl rfl rfl ⟨rfl, rfl, rfl, rfl, rfl⟩ rfl rfl rfl rfl rfl (by kernel_rfl) Tryz.func3 (by kernel_rfl)
    (of_decide_eq_true (by kernel_rfl)) (by unfold Func.isWrapper; first | (rw [if_pos (by decide +kernel)]; kernel_rfl) | (rw [if_neg (by decide +kernel)]; exact ⟨rfl, rfl⟩))
    (fun os started H enc _ => lifted os started H enc)
theorem proved : Rows.WholeRoadsCardSaid :=
  Claim7.holds_tied_plain_at .later [] [.data, .data, .data, .sentinel, .sentinel] true (true, "fa42036bb3dcd10b89f3b06505bf1e68ae23182a86f095fa1e272fbc2bb1d527") true
    said (fun _ h => by cases h) (by kernel_rfl) (fun _ h => by cases h) wholeRoads_row_tie rfl ⟨rfl, rfl⟩ (by kernel_rfl) rfl
    (fun f fn hf hfn => by
      obtain rfl : f = 3 := Option.some.inj ((show Tryz.prog.funcNamed "pedigree/pedigreetop.WholeRoads" = some 3 by kernel_rfl).symm.trans hf) |>.symm
      obtain rfl : fn = Tryz.f3 := (Option.some.inj (Tryz.func3.symm.trans hfn)).symm
      exact ⟨by kernel_rfl, fun j t ht => by
        rw [Tryz.params3] at ht
        have hm : t ∈ [22, 23] := by simpa using Array.mem_of_getElem? ht
        have hall : ([22, 23].all fun u => !Tryz.prog.wantsStandIn u) = true := by kernel_rfl
        exact (show Tryz.prog.wantsStandIn t = false by simpa using List.all_eq_true.1 hall t hm)⟩)
    (by kernel_rfl)
#print axioms proved
end Go.Proofs.YtbhfbdcmamodcaaGreatDoor.lawWholeRoads
