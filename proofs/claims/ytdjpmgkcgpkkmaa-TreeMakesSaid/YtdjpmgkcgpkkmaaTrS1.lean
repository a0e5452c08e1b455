/- Walks of layer 8: sorting a block of entries by insertion, in place. -/
import Derived.Test.YtdjpmgkcgpkkmaaTrW7
import Derived.Shelf.SlSortCmp.InsertionK
set_option linter.unusedVariables false
set_option linter.unusedSimpArgs false
namespace Go.Proofs.Ytdjpmgkcgpkkmaa
open Go.RowKit TrMath Go.Sort Go.Shelf

theorem tByPathG (p : ByteArray) (v : Int) (q : ByteArray) (w : World) : Calls Try.prog 39 #[.agg #[.string p, .int .u32 v], .string q] w fun e w' => e = .returned (.int .i64 (cmpP p q)) ∧ w' = w.alloc (.cells #[.string p, .int .u32 v] 39) := by
  have HC := Lib.hid (fun W => sCompare p q W)
  go_enter Try.func39, Try.ntmps39
  go_wp2_with (go_at_call 61; (with_reducible refine (HC.out _).mono ?_); rintro e w' ⟨rfl, rfl⟩)
  go_ret
  exact ⟨rfl, rfl⟩
theorem tCompG (p : ByteArray) (v : Int) (q : ByteArray) (u : Int) (w : World) : Calls Try.prog 38 #[.agg #[.string p, .int .u32 v], .agg #[.string q, .int .u32 u]] w fun e w' => e = .returned (.int .i64 (cmpP p q)) ∧ ∃ n os, w' = grow (w.drewN n) os := by
  have HC := Lib.hid (fun W => tByPathG p v q W)
  go_enter Try.func38, Try.ntmps38
  go_wp2_with (go_at_call 39; (with_reducible refine (HC.out _).mono ?_); rintro e w' ⟨rfl, rfl⟩)
  go_ret
  exact ⟨rfl, 0, _, by rw [alloc_eq_grow, alloc_eq_grow, alloc_eq_grow, grow_grow, grow_grow]; rfl⟩

/-- An entry's two cells. -/
def encE (x : ByteArray × Int) : List Value := [.string x.1, .int .u32 x.2]
theorem encE_len (x : ByteArray × Int) : (encE x).length = 2 := rfl
theorem encE_one : ∀ (x : ByteArray × Int), ∀ v ∈ encE x, v.oneCell' = true := fun x v hv => by simp [encE] at hv; rcases hv with rfl | rfl <;> rfl
def cfE (x y : ByteArray × Int) : Int := cmpP x.1 y.1
theorem cmpLaysE (blk off size : Nat) (w : World) : CmpLays Try.prog 38 #[] encE 2 cfE blk off size w :=
  fun _ _ _ _ x y => tCompG x.1 x.2 y.1 y.2 _
def rnS : Ren := ⟨fun | 20 => 76 | n => n, fun | 0 => 0 | 3 => 3 | 4 => 4 | 22 => 22 | 24 => 39 | 25 => 54 | n => n, fun n => n⟩
theorem lysS : SlLaysF0.n20 Try.prog rnS := {
  mixed := by kernel_rfl
  f20 := ⟨Try.f76.name, by decide, by kernel_rfl⟩
  t0 := by kernel_rfl
  a0 := fun _ => by kernel_rfl
  z0 := fun _ => by kernel_rfl
  v0 := fun _ => by kernel_rfl
  t3 := by kernel_rfl
  a3 := fun _ => by kernel_rfl
  z3 := fun _ => by kernel_rfl
  v3 := fun _ => by kernel_rfl
  t4 := by kernel_rfl
  a4 := fun _ => by kernel_rfl
  z4 := fun _ => by kernel_rfl
  v4 := fun _ => by kernel_rfl
  t22 := by kernel_rfl
  a22 := fun _ => by kernel_rfl
  z22 := fun _ => by kernel_rfl
  v22 := fun _ => by kernel_rfl
  t25 := by kernel_rfl
  a25 := fun _ => by kernel_rfl
  z25 := fun _ => by kernel_rfl
  v25 := fun _ => by kernel_rfl }
theorem enterC : ∀ args w, (callFunc 38 args).run Try.prog w = .ok (.enter 38 args) w := enters_of Try.func38 (by kernel_rfl) rfl
/-- A world in which a block of entries stands sorted so far, draws and new blocks aside. -/
def SW (w : World) (g : Nat) (d : Array (ByteArray × Int)) (wr : World) : Prop := ∃ n os, wr = sortWorldK encE 2 w g 0 n d os
theorem insSort (g cap a b : Nat) (d : Array (ByteArray × Int)) (w : World) (hH : HoldsK encE 2 w g 0 d) (hg : g < w.heap.size) (hab : a ≤ b) (hb : b ≤ d.size) (hsz : d.size < 4611686018427387904) :
    Calls Try.prog 76 #[.slice (some ⟨g, 0, none⟩) d.size cap, .int .i64 a, .int .i64 b, .func (.func 38) #[] #[]] w fun e w' => e = .returned (.tuple #[]) ∧ SW w g (Sort.insertionSort (ltOf cfE) d a b) w' :=
  AnyQ.insertionSortCmpFunc lysS 2 (fun _ => by kernel_rfl) (fun _ => by kernel_rfl) encE encE_len encE_one cfE 38 #[] g 0 cap a b d w enterC (cmpLaysE g 0 d.size w) hH hg hab hb hsz
end Go.Proofs.Ytdjpmgkcgpkkmaa
