/- The whole: the number of a graph's file's name; The whole: a name that is no graph's file's. -/
import Derived.Test.YtneheimdonlbbaaGreatDoorGc35
import Derived.Shelf.Small.Wraps
import Derived.Shelf.Strconv.Atoi
import Derived.Shelf.Strconv.AtoiErr
set_option linter.unusedVariables false
set_option linter.unusedSimpArgs false
namespace Go.Proofs.YtneheimdonlbbaaGreatDoor
open Go.RowKit Go.Shelf
shelf_lay Lays.n103 Nm 103 at Tryz as nmLays103
shelf_lay Lays.n172 Nm 172 at Tryz as nmLays172
theorem nAtoi (s : ByteArray) (n : Int) (hl : s.size ≤ 18) (h : Lib.atoi s.data.toList = some n) (w : World) : Calls Tryz.prog 134 #[.string s] w fun e w' => e = .returned (.tuple #[.int .i64 n, .nilIface]) ∧ Below w.heap.size w w' :=
  (Any.strconv_Atoi nmLays172 s n hl h w).mono fun e w' ⟨h1, t, h2⟩ => ⟨h1, by
    rw [h2]
    exact Lib.bytesWorld_below _ _ _⟩
theorem nCut (s p : ByteArray) (w : World) : Calls Tryz.prog 133 #[.string s, .string p] w fun e w' => e = .returned (.tuple #[.string ⟨(Lib.trimPrefix s.data.toList p.data.toList).toArray⟩, .bool (Lib.hasPrefix s.data.toList p.data.toList)]) ∧ w' = w := Any.strings_CutPrefix nmLays103 s p w
theorem dec_atoi {n : Nat} (h : n < 100) : Lib.atoi (Lib.decDigits n) = some (n : Int) := by
  have key : ∀ n, n < 100 → Lib.atoi (if n < 10 then [UInt8.ofNat (48 + n)] else [UInt8.ofNat (48 + n / 10), UInt8.ofNat (48 + n % 10)]) = some (n : Int) := by decide
  have := key n h
  by_cases h1 : n < 10
  · rw [Lib.decDigits_one h1]; rwa [if_pos h1] at this
  · rw [Lib.decDigits_two h1 h]; rwa [if_neg h1] at this
theorem name_cut (n : Nat) : Lib.trimPrefix (nameG n).data.toList [103, 114, 97, 112, 104, 45] = Lib.decDigits n ∧ Lib.hasPrefix (nameG n).data.toList [103, 114, 97, 112, 104, 45] = true := by
  have e : (nameG n).data.toList = [103, 114, 97, 112, 104, 45] ++ Lib.decDigits n := by simp [nameG]
  rw [e]
  simp [Lib.trimPrefix, Lib.hasPrefix]
theorem nNumber (n : Nat) (h : n < 100) (w : World) : Calls Tryz.prog 87 #[.string (nameG n)] w fun e w' => e = .returned (.tuple #[.int .i64 n, .bool true]) ∧ Below w.heap.size w w' := by
  obtain ⟨q1, q2⟩ := name_cut n
  have HC := Lib.hid (fun W => nCut (nameG n) ⟨#[103, 114, 97, 112, 104, 45]⟩ W)
  have HA := Lib.hid (fun W => nAtoi ⟨(Lib.decDigits n).toArray⟩ n (by have := dec_two h; show (Lib.decDigits n).toArray.size ≤ 18; simp; omega) (dec_atoi h) W)
  have HN := Lib.hid (fun W => nName n h W)
  simp only [] at HC
  rw [q1, q2] at HC
  go_enter Tryz.func87, Tryz.ntmps87
  go_wp2_with fail
  (with_reducible refine (HC.out w).mono ?_)
  rintro e w1 ⟨rfl, rfl⟩
  go_wp2_with fail
  (with_reducible refine (HA.out w1).mono ?_)
  rintro e w2 ⟨rfl, hb⟩
  have HB := Lib.hid hb
  clear hb
  go_wp2_with fail
  (with_reducible refine (HN.out w2).mono ?_)
  rintro e w3 ⟨rfl, rfl⟩
  go_wp2
  exact bodyPost_ret (v := .tuple #[.int .i64 n, .bool true]) (by simp [results, Tryz.results87, go_sem]) rfl ⟨rfl, HB.out⟩
end Go.Proofs.YtneheimdonlbbaaGreatDoor
namespace Go.Proofs.YtneheimdonlbbaaGreatDoor
open Go.RowKit Go.Shelf
shelf_lay LaysC.n172 Nm 172 at Tryz as nmLaysC172
def SynOk (w : World) : Prop := ∃ ev, w.cell? ⟨nmLaysC172_ren.g 15, 0, none⟩ = some ev ∧ (ev = .nilIface ∨ ∃ te pe, ev = .iface te pe)
theorem nAtoiErr (s : ByteArray) (hl : s.size ≤ 18) (h : Lib.atoi s.data.toList = none) (w : World) (hv : SynOk w) :
    Calls Tryz.prog 134 #[.string s] w fun e w' => ∃ t p, e = .returned (.tuple #[.int .i64 0, .iface t (.pointer p)]) ∧ Below w.heap.size w w' := by
  obtain ⟨ev, h1, h2⟩ := hv
  exact (Any.strconv_Atoi_err nmLaysC172 s hl h ev w h1 h2).mono fun e w' ⟨N, q1, _, _, q2⟩ => ⟨_, _, q1, q2⟩
theorem nNumberNo (s : ByteArray) (hp : Lib.hasPrefix s.data.toList [103, 114, 97, 112, 104, 45] = false) (hl : s.size ≤ 18) (h : Lib.atoi s.data.toList = none) (w : World) (hv : SynOk w) :
    Calls Tryz.prog 87 #[.string s] w fun e w' => e = .returned (.tuple #[.int .i64 0, .bool false]) ∧ Below w.heap.size w w' := by
  have hb : (⟨s.data.toList.toArray⟩ : ByteArray) = s := by cases s; simp
  have HC := Lib.hid (fun W => nCut s ⟨#[103, 114, 97, 112, 104, 45]⟩ W)
  have HA := Lib.hid (fun W hW => nAtoiErr s hl h W hW)
  have HV := Lib.hid hv
  simp only [] at HC
  unfold Lib.trimPrefix at HC
  rw [hp] at HC
  simp only [Bool.false_eq_true, if_false] at HC
  rw [hb] at HC
  clear hv hb
  go_enter Tryz.func87, Tryz.ntmps87
  go_wp2_with fail
  (with_reducible refine (HC.out w).mono ?_)
  rintro e w1 ⟨rfl, rfl⟩
  go_wp2_with fail
  (with_reducible refine (HA.out w1 HV.out).mono ?_)
  rintro e w2 ⟨t, p, rfl, hb⟩
  have HB := Lib.hid hb
  clear hb
  go_wp2
  exact bodyPost_ret (v := .tuple #[.int .i64 0, .bool false]) (by simp [results, Tryz.results87, go_sem]) rfl ⟨rfl, HB.out⟩
end Go.Proofs.YtneheimdonlbbaaGreatDoor
