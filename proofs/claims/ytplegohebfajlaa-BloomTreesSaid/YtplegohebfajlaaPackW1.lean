/- Walks of layer 2: the writer: what it holds, and what each laying does. -/
import Derived.Test.YtplegohebfajlaaRows
import Derived.Test.YtplegohebfajlaaPackMath
import Derived.Test.YtplegohebfajlaaBits
import Derived.WalkKit
import Derived.WalkSpells
import Derived.WalkLawsBesides
import Derived.Deep.RegionLaw
import Derived.Deep.AppendLies
set_option linter.unusedVariables false
set_option linter.unusedSimpArgs false
namespace Go.Proofs.Ytplegohebfajlaa
open Go.RowKit PackMath

def bytesOf (l : List UInt8) : List Value := l.map fun b => Value.int .u8 (b.toNat : Nat)
theorem bytesOf_append (l m : List UInt8) : bytesOf (l ++ m) = bytesOf l ++ bytesOf m := by simp [bytesOf]
theorem bytesOf_length (l : List UInt8) : (bytesOf l).length = l.length := by simp [bytesOf]

/-- What a laying leaves as it was: all but the writer's own cell and its row; its row stays, or is new. -/
structure Moved (w w' : World) (p : Nat) (v v' : Value) : Prop where
  os : w'.os = w.os
  tape : w'.tape = w.tape
  output : w'.output = w.output
  size : w.heap.size ≤ w'.heap.size
  block : ∀ k, k < w.heap.size → k ≠ p → some k ≠ v.ownBlock → w'.heap[k]? = w.heap[k]?
  lies : v'.ownBlock = v.ownBlock ∨ ∃ g, v'.ownBlock = some g ∧ w.heap.size ≤ g

theorem Moved.refl (w : World) (p : Nat) (v : Value) : Moved w w p v v := ⟨rfl, rfl, rfl, Nat.le_refl _, fun _ _ _ _ => rfl, .inl rfl⟩
theorem Moved.trans {w x y : World} {p : Nat} {u v z : Value} (h : Moved w x p u v) (k : Moved x y p v z) : Moved w y p u z := by
  refine ⟨k.os.trans h.os, k.tape.trans h.tape, k.output.trans h.output, Nat.le_trans h.size k.size, fun i hi hp hu => ?_, ?_⟩
  · rw [k.block i (Nat.lt_of_lt_of_le hi h.size) hp ?_, h.block i hi hp hu]
    rcases h.lies with e | ⟨g, e, hg⟩
    · rw [e]; exact hu
    · rw [e]
      intro e2
      have := Option.some.inj e2
      omega
  · rcases k.lies with e | ⟨g, e, hg⟩
    · rcases h.lies with e2 | ⟨g, e2, hg⟩
      · exact .inl (e.trans e2)
      · exact .inr ⟨g, e.trans e2, hg⟩
    · exact .inr ⟨g, e, Nat.le_trans h.size hg⟩
theorem Moved.drew {w w' : World} {p : Nat} {v v' : Value} (h : Moved w w' p v v') : Moved w w'.drew p v v' := ⟨h.os, h.tape, h.output, h.size, h.block, h.lies⟩

theorem infoU8 : (Try.prog.info? 5).map (fun i => (i.zero, i.size, i.bytes)) = some (some (.int .u8 0), 1, 1) := by kernel_rfl

theorem own_lt {B e n : Nat} {w : World} {v : Value} {xs : List Value} (h : w.ownsRow B e 1 v n xs) : ∀ g, v.ownBlock = some g → g < w.heap.size := fun g hg => (h.lt g hg).2

theorem cells_one (w : World) (v : Value) (t : TypeId) : ∀ (j : Nat) u, [v][j]? = some u → (w.alloc (.cells #[v] t)).cell? ((⟨w.heap.size, 0, none⟩ : Addr).add j) = some u := by
  intro j u hj
  match j, hj with
  | 0, hj =>
    simp at hj
    subst hj
    show (w.alloc (.cells #[v] t)).cell? ⟨w.heap.size, 0, none⟩ = _
    rw [World.cell?_alloc_new]
    rfl
theorem one_byte (b : UInt8) : ∀ u ∈ [Value.int .u8 (b.toNat : Nat)], u.oneCell' = true := by
  intro u hu
  simp at hu
  subst hu
  rfl

theorem byte_val (x m : Nat) : IntKind.u8.wrap ((x : Int) / 2 ^ (8 * (m : Int)).toNat) = (((byteAt x m).toNat : Nat) : Int) := by
  rw [byteAt_toNat, IntKind.wrap_u8, show (8 * (m : Int)).toNat = 8 * m from by omega]
  have e : (2 : Int) ^ (8 * m) = ((256 ^ m : Nat) : Int) := by
    rw [Int.natCast_pow, Int.pow_mul]; rfl
  rw [e]
  omega

end Go.Proofs.Ytplegohebfajlaa
