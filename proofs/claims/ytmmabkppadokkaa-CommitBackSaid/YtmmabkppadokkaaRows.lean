/-
  No cell of these rows narrows 'for every input' (looked for: loops, veiled, ifaces, maps, wideKeys, modest, calm, conditions, laid).
  DERIVED. THE GIVEN ROWS OF THIS SEAT. 4 by the template 'for every input the law returns true; each argument reads behind the call as it read before'; 0 by the template 'total and deterministic' (their statements: YtmmabkppadokkaaTotals.lean).
  GIVEN WITH THE SEED: the statements are not yours to turn. If you find one false, say at which input.
  Laid BY PROGRAM, IN A SANDBOX (cutbox-rows.mjs): the forced cells as the released guide's own fill.sh prints them over the translation a3d55e650ce35896… (all of the seat's roots in one cut). By AI agents, Wed Nov 11 2026. No macro, syntax, notation, axiom, sorry.
-/
import Derived.Test.YtmmabkppadokkaaChecked
import GoSem.Claim
import GoSem.ClaimJoined
import GoSem.ClaimMapViews
import Derived.JoinedTies
import Derived.KernelRfl
namespace Go.Proofs.Ytmmabkppadokkaa
/- THE CELL 'sum', in the pinned program and in every row, IS THE sha256 OF THE DUMP (.gsa) THAT YtmmabkppadokkaaProg.lean LOADS. Nothing in Lean hashes anything: it is a label: what it is worth is what the hold of that sum in a sandbox is worth. -/
noncomputable def Try.pinned : Pinned := { name := "ytmmabkppadokkaa", sum := "a3d55e650ce358960cf0e8b8854965fec89adbb05232fb13d1f7d4a902bca2fe", checked := Try.checked }
namespace Rows
def none {H : Type} : Left H := { results := [], args := [] }

/-- 'pedigreelaw09.CommitEncodes': WHATEVER THE INPUT: true; the input reads as it did. -/
def commitEncodesSpec : ChangeSpec := { name := "commitEncodes", fn := fun _ => fun
  | [d] => { results := [.lit (.bool true)], args := [d] }
  | _ => none }
def commitEncodesRow : OpenClaim := { program := "ytmmabkppadokkaa", sum := "a3d55e650ce358960cf0e8b8854965fec89adbb05232fb13d1f7d4a902bca2fe", func := "pedigree/pedigreelaw09.CommitEncodes", spec := "commitEncodes", apart := false }
def CommitEncodesSaid : Prop := commitEncodesRow.holds Try.pinned (OpenSpec.ofChange commitEncodesSpec)

/-- ITS FALSE NEIGHBOUR: 'it returns false'. Refute it at one input. -/
def commitEncodesWrong : ChangeSpec := { name := "commitEncodes", fn := fun _ => fun
  | [d] => { results := [.lit (.bool false)], args := [d] }
  | _ => none }
def CommitEncodesWrongFalsely : Prop := commitEncodesRow.holds Try.pinned (OpenSpec.ofChange commitEncodesWrong)

/-- 'pedigreelaw09.CommitSame': WHATEVER THE INPUT: true; the input reads as it did. -/
def commitSameSpec : ChangeSpec := { name := "commitSame", fn := fun _ => fun
  | [d1, d2] => { results := [.lit (.bool true)], args := [d1, d2] }
  | _ => none }
def commitSameRow : OpenClaim := { program := "ytmmabkppadokkaa", sum := "a3d55e650ce358960cf0e8b8854965fec89adbb05232fb13d1f7d4a902bca2fe", func := "pedigree/pedigreelaw09.CommitSame", spec := "commitSame", apart := false }
def CommitSameSaid : Prop := commitSameRow.holds Try.pinned (OpenSpec.ofChange commitSameSpec)

/-- ITS FALSE NEIGHBOUR: 'it returns false'. Refute it at one input. -/
def commitSameWrong : ChangeSpec := { name := "commitSame", fn := fun _ => fun
  | [d1, d2] => { results := [.lit (.bool false)], args := [d1, d2] }
  | _ => none }
def CommitSameWrongFalsely : Prop := commitSameRow.holds Try.pinned (OpenSpec.ofChange commitSameWrong)

/-- 'pedigreelaw09.CommitDecodes': WHATEVER THE INPUT: true; the input reads as it did. -/
def commitDecodesSpec : ChangeSpec := { name := "commitDecodes", fn := fun _ => fun
  | [d] => { results := [.lit (.bool true)], args := [d] }
  | _ => none }
def commitDecodesRow : OpenClaim := { program := "ytmmabkppadokkaa", sum := "a3d55e650ce358960cf0e8b8854965fec89adbb05232fb13d1f7d4a902bca2fe", func := "pedigree/pedigreelaw09.CommitDecodes", spec := "commitDecodes", apart := false }
def CommitDecodesSaid : Prop := commitDecodesRow.holds Try.pinned (OpenSpec.ofChange commitDecodesSpec)

/-- ITS FALSE NEIGHBOUR: 'it returns false'. Refute it at one input. -/
def commitDecodesWrong : ChangeSpec := { name := "commitDecodes", fn := fun _ => fun
  | [d] => { results := [.lit (.bool false)], args := [d] }
  | _ => none }
def CommitDecodesWrongFalsely : Prop := commitDecodesRow.holds Try.pinned (OpenSpec.ofChange commitDecodesWrong)

/-- 'pedigreelaw09.CommitBack': WHATEVER THE INPUT: true; the input reads as it did. -/
def commitBackSpec : ChangeSpec := { name := "commitBack", fn := fun _ => fun
  | [d1, d2] => { results := [.lit (.bool true)], args := [d1, d2] }
  | _ => none }
def commitBackRow : OpenClaim := { program := "ytmmabkppadokkaa", sum := "a3d55e650ce358960cf0e8b8854965fec89adbb05232fb13d1f7d4a902bca2fe", func := "pedigree/pedigreelaw09.CommitBack", spec := "commitBack", apart := false }
def CommitBackSaid : Prop := commitBackRow.holds Try.pinned (OpenSpec.ofChange commitBackSpec)

/-- ITS FALSE NEIGHBOUR: 'it returns false'. Refute it at one input. -/
def commitBackWrong : ChangeSpec := { name := "commitBack", fn := fun _ => fun
  | [d1, d2] => { results := [.lit (.bool false)], args := [d1, d2] }
  | _ => none }
def CommitBackWrongFalsely : Prop := commitBackRow.holds Try.pinned (OpenSpec.ofChange commitBackWrong)

/- THE SECOND FORM. 'bulk': how many values and letters a reading holds, each counted each time it is reached (what is shared counts as often as it is met; a slice's spare places count too). A statement '..UptoSaid' is the law's where the arguments, and the package variables that the reading takes, are together of bulk at most 1048576: NARROWER than '..Said'. Prove '..Said' where nothing that the law and all that it calls make is longer than what came in: it says more and counts as full. Else prove '..UptoSaid'. A law counts once. -/
mutual
def uptoBulk {H : Type} : DataW H → Nat
  | .lit (.string bytes) => bytes.length + 1
  | .lit _ => 1
  | .nil => 1
  | .ptr d => uptoBulk d + 1
  | .slice elems spare => uptoBulkAll elems + uptoBulkAll spare + 1
  | .agg parts => uptoBulkAll parts + 1
  | .iface _ d => uptoBulk d + 1
  | .map entries => uptoBulkEntries entries + 1
  | .held _ => 1
def uptoBulkAll {H : Type} : List (DataW H) → Nat
  | [] => 0
  | d :: r => uptoBulk d + uptoBulkAll r
def uptoBulkEntries {H : Type} : List (Lit × DataW H) → Nat
  | [] => 0
  | x :: r => uptoBulkEntry x + uptoBulkEntries r
def uptoBulkEntry {H : Type} : Lit × DataW H → Nat
  | (.string bytes, d) => bytes.length + uptoBulk d + 1
  | (_, d) => uptoBulk d + 1
 end
def uptoSmall : (H : Type) → List (DataW H) → Bool := fun _ ds => decide (uptoBulkAll ds ≤ 1048576)
def OpenSpec.upto (s : _root_.Go.ChangeSpec) : _root_.Go.OpenSpec := { _root_.Go.OpenSpec.ofChange s with cond := some uptoSmall }

/-- 'pedigreelaw09.CommitEncodes', WHERE WHAT IT READS IS OF BULK AT MOST 1048576: true; the input reads as it did. -/
def commitEncodesUptoRow : OpenClaim := { program := "ytmmabkppadokkaa", sum := "a3d55e650ce358960cf0e8b8854965fec89adbb05232fb13d1f7d4a902bca2fe", func := "pedigree/pedigreelaw09.CommitEncodes", spec := "commitEncodes", apart := false, narrowed := true }
def CommitEncodesUptoSaid : Prop := commitEncodesUptoRow.holds Try.pinned (OpenSpec.upto commitEncodesSpec)

/-- 'pedigreelaw09.CommitSame', WHERE WHAT IT READS IS OF BULK AT MOST 1048576: true; the input reads as it did. -/
def commitSameUptoRow : OpenClaim := { program := "ytmmabkppadokkaa", sum := "a3d55e650ce358960cf0e8b8854965fec89adbb05232fb13d1f7d4a902bca2fe", func := "pedigree/pedigreelaw09.CommitSame", spec := "commitSame", apart := false, narrowed := true }
def CommitSameUptoSaid : Prop := commitSameUptoRow.holds Try.pinned (OpenSpec.upto commitSameSpec)

/-- 'pedigreelaw09.CommitDecodes', WHERE WHAT IT READS IS OF BULK AT MOST 1048576: true; the input reads as it did. -/
def commitDecodesUptoRow : OpenClaim := { program := "ytmmabkppadokkaa", sum := "a3d55e650ce358960cf0e8b8854965fec89adbb05232fb13d1f7d4a902bca2fe", func := "pedigree/pedigreelaw09.CommitDecodes", spec := "commitDecodes", apart := false, narrowed := true }
def CommitDecodesUptoSaid : Prop := commitDecodesUptoRow.holds Try.pinned (OpenSpec.upto commitDecodesSpec)

/-- 'pedigreelaw09.CommitBack', WHERE WHAT IT READS IS OF BULK AT MOST 1048576: true; the input reads as it did. -/
def commitBackUptoRow : OpenClaim := { program := "ytmmabkppadokkaa", sum := "a3d55e650ce358960cf0e8b8854965fec89adbb05232fb13d1f7d4a902bca2fe", func := "pedigree/pedigreelaw09.CommitBack", spec := "commitBack", apart := false, narrowed := true }
def CommitBackUptoSaid : Prop := commitBackUptoRow.holds Try.pinned (OpenSpec.upto commitBackSpec)

end Rows
end Go.Proofs.Ytmmabkppadokkaa
