/-
  No cell of these rows narrows 'for every input' (looked for: loops, veiled, ifaces, maps, wideKeys, modest, calm, conditions, laid).
  DERIVED. THE GIVEN ROWS OF THIS SEAT. 7 by the template 'for every input the law returns true; each argument reads behind the call as it read before'; 0 by the template 'total and deterministic' (their statements: YtdjpmgkcgpkkmaaTotals.lean).
  GIVEN WITH THE SEED: the statements are not yours to turn. If you find one false, say at which input.
  Laid BY PROGRAM, IN A SANDBOX (cutbox-rows.mjs): the forced cells as the released guide's own fill.sh prints them over the translation a8dc2bdd616bc192… (all of the seat's roots in one cut). By AI agents, Wed Nov 11 2026. No macro, syntax, notation, axiom, sorry.
-/
import Derived.Test.YtdjpmgkcgpkkmaaChecked
import GoSem.Claim
import GoSem.ClaimJoined
import GoSem.ClaimMapViews
import Derived.JoinedTies
import Derived.KernelRfl
namespace Go.Proofs.Ytdjpmgkcgpkkmaa
/- THE CELL 'sum', in the pinned program and in every row, IS THE sha256 OF THE DUMP (.gsa) THAT YtdjpmgkcgpkkmaaProg.lean LOADS. Nothing in Lean hashes anything: it is a label: what it is worth is what the hold of that sum in a sandbox is worth. -/
noncomputable def Try.pinned : Pinned := { name := "ytdjpmgkcgpkkmaa", sum := "a8dc2bdd616bc192b72928153d4bb7d21e89db37520a8befb7c08ea8a9ad68ad", checked := Try.checked }
namespace Rows
def none {H : Type} : Left H := { results := [], args := [] }

/-- 'pedigreelaw08.TreeMakes': WHATEVER THE INPUT: true; the input reads as it did. -/
def treeMakesSpec : ChangeSpec := { name := "treeMakes", fn := fun _ => fun
  | [d] => { results := [.lit (.bool true)], args := [d] }
  | _ => none }
def treeMakesRow : OpenClaim := { program := "ytdjpmgkcgpkkmaa", sum := "a8dc2bdd616bc192b72928153d4bb7d21e89db37520a8befb7c08ea8a9ad68ad", func := "pedigree/pedigreelaw08.TreeMakes", spec := "treeMakes", inPlace := ["internal/bytealg.abigen_runtime_cmpstring"], unfollowed := true, recurses := true, apart := false }
def TreeMakesSaid : Prop := treeMakesRow.holds Try.pinned (OpenSpec.ofChange treeMakesSpec)

/-- ITS FALSE NEIGHBOUR: 'it returns false'. Refute it at one input. -/
def treeMakesWrong : ChangeSpec := { name := "treeMakes", fn := fun _ => fun
  | [d] => { results := [.lit (.bool false)], args := [d] }
  | _ => none }
def TreeMakesWrongFalsely : Prop := treeMakesRow.holds Try.pinned (OpenSpec.ofChange treeMakesWrong)

/-- 'pedigreelaw08.TreeEncodes': WHATEVER THE INPUT: true; the input reads as it did. -/
def treeEncodesSpec : ChangeSpec := { name := "treeEncodes", fn := fun _ => fun
  | [d] => { results := [.lit (.bool true)], args := [d] }
  | _ => none }
def treeEncodesRow : OpenClaim := { program := "ytdjpmgkcgpkkmaa", sum := "a8dc2bdd616bc192b72928153d4bb7d21e89db37520a8befb7c08ea8a9ad68ad", func := "pedigree/pedigreelaw08.TreeEncodes", spec := "treeEncodes", inPlace := ["internal/bytealg.abigen_runtime_cmpstring"], unfollowed := true, recurses := true, apart := false }
def TreeEncodesSaid : Prop := treeEncodesRow.holds Try.pinned (OpenSpec.ofChange treeEncodesSpec)

/-- ITS FALSE NEIGHBOUR: 'it returns false'. Refute it at one input. -/
def treeEncodesWrong : ChangeSpec := { name := "treeEncodes", fn := fun _ => fun
  | [d] => { results := [.lit (.bool false)], args := [d] }
  | _ => none }
def TreeEncodesWrongFalsely : Prop := treeEncodesRow.holds Try.pinned (OpenSpec.ofChange treeEncodesWrong)

/-- 'pedigreelaw08.TreeDecodes': WHATEVER THE INPUT: true; the input reads as it did. -/
def treeDecodesSpec : ChangeSpec := { name := "treeDecodes", fn := fun _ => fun
  | [d] => { results := [.lit (.bool true)], args := [d] }
  | _ => none }
def treeDecodesRow : OpenClaim := { program := "ytdjpmgkcgpkkmaa", sum := "a8dc2bdd616bc192b72928153d4bb7d21e89db37520a8befb7c08ea8a9ad68ad", func := "pedigree/pedigreelaw08.TreeDecodes", spec := "treeDecodes", inPlace := ["internal/bytealg.abigen_runtime_cmpstring"], unfollowed := true, recurses := true, apart := false }
def TreeDecodesSaid : Prop := treeDecodesRow.holds Try.pinned (OpenSpec.ofChange treeDecodesSpec)

/-- ITS FALSE NEIGHBOUR: 'it returns false'. Refute it at one input. -/
def treeDecodesWrong : ChangeSpec := { name := "treeDecodes", fn := fun _ => fun
  | [d] => { results := [.lit (.bool false)], args := [d] }
  | _ => none }
def TreeDecodesWrongFalsely : Prop := treeDecodesRow.holds Try.pinned (OpenSpec.ofChange treeDecodesWrong)

/-- 'pedigreelaw08.TreePuts': WHATEVER THE INPUT: true; the input reads as it did. -/
def treePutsSpec : ChangeSpec := { name := "treePuts", fn := fun _ => fun
  | [d1, d2, d3] => { results := [.lit (.bool true)], args := [d1, d2, d3] }
  | _ => none }
def treePutsRow : OpenClaim := { program := "ytdjpmgkcgpkkmaa", sum := "a8dc2bdd616bc192b72928153d4bb7d21e89db37520a8befb7c08ea8a9ad68ad", func := "pedigree/pedigreelaw08.TreePuts", spec := "treePuts", inPlace := ["internal/bytealg.abigen_runtime_cmpstring", "slices.overlaps[pedigree/api.Entry]"], unfollowed := true, recurses := true, apart := false }
def TreePutsSaid : Prop := treePutsRow.holds Try.pinned (OpenSpec.ofChange treePutsSpec)

/-- ITS FALSE NEIGHBOUR: 'it returns false'. Refute it at one input. -/
def treePutsWrong : ChangeSpec := { name := "treePuts", fn := fun _ => fun
  | [d1, d2, d3] => { results := [.lit (.bool false)], args := [d1, d2, d3] }
  | _ => none }
def TreePutsWrongFalsely : Prop := treePutsRow.holds Try.pinned (OpenSpec.ofChange treePutsWrong)

/-- 'pedigreelaw08.TreePatches': WHATEVER THE INPUT: true; the input reads as it did. -/
def treePatchesSpec : ChangeSpec := { name := "treePatches", fn := fun _ => fun
  | [d1, d2] => { results := [.lit (.bool true)], args := [d1, d2] }
  | _ => none }
def treePatchesRow : OpenClaim := { program := "ytdjpmgkcgpkkmaa", sum := "a8dc2bdd616bc192b72928153d4bb7d21e89db37520a8befb7c08ea8a9ad68ad", func := "pedigree/pedigreelaw08.TreePatches", spec := "treePatches", inPlace := ["internal/bytealg.abigen_runtime_cmpstring", "slices.overlaps[pedigree/api.Entry]"], unfollowed := true, recurses := true, apart := false }
def TreePatchesSaid : Prop := treePatchesRow.holds Try.pinned (OpenSpec.ofChange treePatchesSpec)

/-- ITS FALSE NEIGHBOUR: 'it returns false'. Refute it at one input. -/
def treePatchesWrong : ChangeSpec := { name := "treePatches", fn := fun _ => fun
  | [d1, d2] => { results := [.lit (.bool false)], args := [d1, d2] }
  | _ => none }
def TreePatchesWrongFalsely : Prop := treePatchesRow.holds Try.pinned (OpenSpec.ofChange treePatchesWrong)

/-- 'pedigreelaw08.TreeBack': WHATEVER THE INPUT: true; the input reads as it did. -/
def treeBackSpec : ChangeSpec := { name := "treeBack", fn := fun _ => fun
  | [d1, d2] => { results := [.lit (.bool true)], args := [d1, d2] }
  | _ => none }
def treeBackRow : OpenClaim := { program := "ytdjpmgkcgpkkmaa", sum := "a8dc2bdd616bc192b72928153d4bb7d21e89db37520a8befb7c08ea8a9ad68ad", func := "pedigree/pedigreelaw08.TreeBack", spec := "treeBack", inPlace := ["internal/bytealg.abigen_runtime_cmpstring"], unfollowed := true, recurses := true, apart := false }
def TreeBackSaid : Prop := treeBackRow.holds Try.pinned (OpenSpec.ofChange treeBackSpec)

/-- ITS FALSE NEIGHBOUR: 'it returns false'. Refute it at one input. -/
def treeBackWrong : ChangeSpec := { name := "treeBack", fn := fun _ => fun
  | [d1, d2] => { results := [.lit (.bool false)], args := [d1, d2] }
  | _ => none }
def TreeBackWrongFalsely : Prop := treeBackRow.holds Try.pinned (OpenSpec.ofChange treeBackWrong)

/-- 'pedigreelaw08.TreeDiffs': WHATEVER THE INPUT: true; the input reads as it did. -/
def treeDiffsSpec : ChangeSpec := { name := "treeDiffs", fn := fun _ => fun
  | [d1, d2] => { results := [.lit (.bool true)], args := [d1, d2] }
  | _ => none }
def treeDiffsRow : OpenClaim := { program := "ytdjpmgkcgpkkmaa", sum := "a8dc2bdd616bc192b72928153d4bb7d21e89db37520a8befb7c08ea8a9ad68ad", func := "pedigree/pedigreelaw08.TreeDiffs", spec := "treeDiffs", inPlace := ["internal/bytealg.abigen_runtime_cmpstring", "slices.overlaps[pedigree/api.Entry]"], unfollowed := true, recurses := true, apart := false }
def TreeDiffsSaid : Prop := treeDiffsRow.holds Try.pinned (OpenSpec.ofChange treeDiffsSpec)

/-- ITS FALSE NEIGHBOUR: 'it returns false'. Refute it at one input. -/
def treeDiffsWrong : ChangeSpec := { name := "treeDiffs", fn := fun _ => fun
  | [d1, d2] => { results := [.lit (.bool false)], args := [d1, d2] }
  | _ => none }
def TreeDiffsWrongFalsely : Prop := treeDiffsRow.holds Try.pinned (OpenSpec.ofChange treeDiffsWrong)

/- THE SECOND FORM. 'bulk': how many values and letters a reading holds, each counted each time it is reached (what is shared counts as often as it is met; a slice's spare places count too). A statement '..UptoSaid' is the law's where the arguments, and the package variables that the reading takes, are together of bulk at most 1048576: NARROWER than '..Said'. Prove '..Said' where nothing that the law and all that it calls make is longer than what came in: it says more and counts as full. Else prove '..UptoSaid'. A law counts once. -/
mutual
def uptoBulk {H : Type} : DataW H → Nat
  | .lit (.string bytes) => bytes.length + 1
  | .lit _ => 1
  | .nil => 1
  | .ptr d => uptoBulk d + 1
  | .slice elems spare => uptoBulkAll elems + uptoBulkAll spare + 1
  | .agg parts => uptoBulkAll parts + 1
  | .iface _ d => uptoBulk d + 1
  | .map entries => uptoBulkEntries entries + 1
  | .held _ => 1
def uptoBulkAll {H : Type} : List (DataW H) → Nat
  | [] => 0
  | d :: r => uptoBulk d + uptoBulkAll r
def uptoBulkEntries {H : Type} : List (Lit × DataW H) → Nat
  | [] => 0
  | x :: r => uptoBulkEntry x + uptoBulkEntries r
def uptoBulkEntry {H : Type} : Lit × DataW H → Nat
  | (.string bytes, d) => bytes.length + uptoBulk d + 1
  | (_, d) => uptoBulk d + 1
 end
def uptoSmall : (H : Type) → List (DataW H) → Bool := fun _ ds => decide (uptoBulkAll ds ≤ 1048576)
def OpenSpec.upto (s : _root_.Go.ChangeSpec) : _root_.Go.OpenSpec := { _root_.Go.OpenSpec.ofChange s with cond := some uptoSmall }

/-- 'pedigreelaw08.TreeMakes', WHERE WHAT IT READS IS OF BULK AT MOST 1048576: true; the input reads as it did. -/
def treeMakesUptoRow : OpenClaim := { program := "ytdjpmgkcgpkkmaa", sum := "a8dc2bdd616bc192b72928153d4bb7d21e89db37520a8befb7c08ea8a9ad68ad", func := "pedigree/pedigreelaw08.TreeMakes", spec := "treeMakes", inPlace := ["internal/bytealg.abigen_runtime_cmpstring"], unfollowed := true, recurses := true, apart := false, narrowed := true }
def TreeMakesUptoSaid : Prop := treeMakesUptoRow.holds Try.pinned (OpenSpec.upto treeMakesSpec)

/-- 'pedigreelaw08.TreeEncodes', WHERE WHAT IT READS IS OF BULK AT MOST 1048576: true; the input reads as it did. -/
def treeEncodesUptoRow : OpenClaim := { program := "ytdjpmgkcgpkkmaa", sum := "a8dc2bdd616bc192b72928153d4bb7d21e89db37520a8befb7c08ea8a9ad68ad", func := "pedigree/pedigreelaw08.TreeEncodes", spec := "treeEncodes", inPlace := ["internal/bytealg.abigen_runtime_cmpstring"], unfollowed := true, recurses := true, apart := false, narrowed := true }
def TreeEncodesUptoSaid : Prop := treeEncodesUptoRow.holds Try.pinned (OpenSpec.upto treeEncodesSpec)

/-- 'pedigreelaw08.TreeDecodes', WHERE WHAT IT READS IS OF BULK AT MOST 1048576: true; the input reads as it did. -/
def treeDecodesUptoRow : OpenClaim := { program := "ytdjpmgkcgpkkmaa", sum := "a8dc2bdd616bc192b72928153d4bb7d21e89db37520a8befb7c08ea8a9ad68ad", func := "pedigree/pedigreelaw08.TreeDecodes", spec := "treeDecodes", inPlace := ["internal/bytealg.abigen_runtime_cmpstring"], unfollowed := true, recurses := true, apart := false, narrowed := true }
def TreeDecodesUptoSaid : Prop := treeDecodesUptoRow.holds Try.pinned (OpenSpec.upto treeDecodesSpec)

/-- 'pedigreelaw08.TreePuts', WHERE WHAT IT READS IS OF BULK AT MOST 1048576: true; the input reads as it did. -/
def treePutsUptoRow : OpenClaim := { program := "ytdjpmgkcgpkkmaa", sum := "a8dc2bdd616bc192b72928153d4bb7d21e89db37520a8befb7c08ea8a9ad68ad", func := "pedigree/pedigreelaw08.TreePuts", spec := "treePuts", inPlace := ["internal/bytealg.abigen_runtime_cmpstring", "slices.overlaps[pedigree/api.Entry]"], unfollowed := true, recurses := true, apart := false, narrowed := true }
def TreePutsUptoSaid : Prop := treePutsUptoRow.holds Try.pinned (OpenSpec.upto treePutsSpec)

/-- 'pedigreelaw08.TreePatches', WHERE WHAT IT READS IS OF BULK AT MOST 1048576: true; the input reads as it did. -/
def treePatchesUptoRow : OpenClaim := { program := "ytdjpmgkcgpkkmaa", sum := "a8dc2bdd616bc192b72928153d4bb7d21e89db37520a8befb7c08ea8a9ad68ad", func := "pedigree/pedigreelaw08.TreePatches", spec := "treePatches", inPlace := ["internal/bytealg.abigen_runtime_cmpstring", "slices.overlaps[pedigree/api.Entry]"], unfollowed := true, recurses := true, apart := false, narrowed := true }
def TreePatchesUptoSaid : Prop := treePatchesUptoRow.holds Try.pinned (OpenSpec.upto treePatchesSpec)

/-- 'pedigreelaw08.TreeBack', WHERE WHAT IT READS IS OF BULK AT MOST 1048576: true; the input reads as it did. -/
def treeBackUptoRow : OpenClaim := { program := "ytdjpmgkcgpkkmaa", sum := "a8dc2bdd616bc192b72928153d4bb7d21e89db37520a8befb7c08ea8a9ad68ad", func := "pedigree/pedigreelaw08.TreeBack", spec := "treeBack", inPlace := ["internal/bytealg.abigen_runtime_cmpstring"], unfollowed := true, recurses := true, apart := false, narrowed := true }
def TreeBackUptoSaid : Prop := treeBackUptoRow.holds Try.pinned (OpenSpec.upto treeBackSpec)

/-- 'pedigreelaw08.TreeDiffs', WHERE WHAT IT READS IS OF BULK AT MOST 1048576: true; the input reads as it did. -/
def treeDiffsUptoRow : OpenClaim := { program := "ytdjpmgkcgpkkmaa", sum := "a8dc2bdd616bc192b72928153d4bb7d21e89db37520a8befb7c08ea8a9ad68ad", func := "pedigree/pedigreelaw08.TreeDiffs", spec := "treeDiffs", inPlace := ["internal/bytealg.abigen_runtime_cmpstring", "slices.overlaps[pedigree/api.Entry]"], unfollowed := true, recurses := true, apart := false, narrowed := true }
def TreeDiffsUptoSaid : Prop := treeDiffsUptoRow.holds Try.pinned (OpenSpec.upto treeDiffsSpec)

end Rows
end Go.Proofs.Ytdjpmgkcgpkkmaa
