/-
  No cell of these rows narrows 'for every input' (looked for: loops, veiled, ifaces, maps, wideKeys, modest, calm, conditions, laid).
  DERIVED. THE GIVEN ROWS OF THIS SEAT. 5 by the template 'for every input the law returns true; each argument reads behind the call as it read before'; 0 by the template 'total and deterministic' (their statements: YtplegohebfajlaaTotals.lean).
  GIVEN WITH THE SEED: the statements are not yours to turn. If you find one false, say at which input.
  Laid BY PROGRAM, IN A SANDBOX (cutbox-rows.mjs): the forced cells as the released guide's own fill.sh prints them over the translation 187f54ad685fd880… (all of the seat's roots in one cut). By AI agents, Wed Nov 11 2026. No macro, syntax, notation, axiom, sorry.
-/
import Derived.Test.YtplegohebfajlaaChecked
import GoSem.Claim
import GoSem.ClaimJoined
import GoSem.ClaimMapViews
import Derived.JoinedTies
import Derived.KernelRfl
namespace Go.Proofs.Ytplegohebfajlaa
/- THE CELL 'sum', in the pinned program and in every row, IS THE sha256 OF THE DUMP (.gsa) THAT YtplegohebfajlaaProg.lean LOADS. Nothing in Lean hashes anything: it is a label: what it is worth is what the hold of that sum in a sandbox is worth. -/
noncomputable def Try.pinned : Pinned := { name := "ytplegohebfajlaa", sum := "187f54ad685fd880a51e54abc07f0b3926d0a6211dc904f542217e1792112679", checked := Try.checked }
namespace Rows
def none {H : Type} : Left H := { results := [], args := [] }

/-- 'pedigreelaw13.BloomHashes': WHATEVER THE INPUT: true; the input reads as it did. -/
def bloomHashesSpec : ChangeSpec := { name := "bloomHashes", fn := fun _ => fun
  | [d1, d2] => { results := [.lit (.bool true)], args := [d1, d2] }
  | _ => none }
def bloomHashesRow : OpenClaim := { program := "ytplegohebfajlaa", sum := "187f54ad685fd880a51e54abc07f0b3926d0a6211dc904f542217e1792112679", func := "pedigree/pedigreelaw13.BloomHashes", spec := "bloomHashes", apart := false }
def BloomHashesSaid : Prop := bloomHashesRow.holds Try.pinned (OpenSpec.ofChange bloomHashesSpec)

/-- ITS FALSE NEIGHBOUR: 'it returns false'. Refute it at one input. -/
def bloomHashesWrong : ChangeSpec := { name := "bloomHashes", fn := fun _ => fun
  | [d1, d2] => { results := [.lit (.bool false)], args := [d1, d2] }
  | _ => none }
def BloomHashesWrongFalsely : Prop := bloomHashesRow.holds Try.pinned (OpenSpec.ofChange bloomHashesWrong)

/-- 'pedigreelaw13.BloomPlaces': WHATEVER THE INPUT: true; the input reads as it did. -/
def bloomPlacesSpec : ChangeSpec := { name := "bloomPlaces", fn := fun _ => fun
  | [d1, d2, d3] => { results := [.lit (.bool true)], args := [d1, d2, d3] }
  | _ => none }
def bloomPlacesRow : OpenClaim := { program := "ytplegohebfajlaa", sum := "187f54ad685fd880a51e54abc07f0b3926d0a6211dc904f542217e1792112679", func := "pedigree/pedigreelaw13.BloomPlaces", spec := "bloomPlaces", apart := false }
def BloomPlacesSaid : Prop := bloomPlacesRow.holds Try.pinned (OpenSpec.ofChange bloomPlacesSpec)

/-- ITS FALSE NEIGHBOUR: 'it returns false'. Refute it at one input. -/
def bloomPlacesWrong : ChangeSpec := { name := "bloomPlaces", fn := fun _ => fun
  | [d1, d2, d3] => { results := [.lit (.bool false)], args := [d1, d2, d3] }
  | _ => none }
def BloomPlacesWrongFalsely : Prop := bloomPlacesRow.holds Try.pinned (OpenSpec.ofChange bloomPlacesWrong)

/-- 'pedigreelaw13.BloomMakes': WHATEVER THE INPUT: true; the input reads as it did. -/
def bloomMakesSpec : ChangeSpec := { name := "bloomMakes", fn := fun _ => fun
  | [d1, d2] => { results := [.lit (.bool true)], args := [d1, d2] }
  | _ => none }
def bloomMakesRow : OpenClaim := { program := "ytplegohebfajlaa", sum := "187f54ad685fd880a51e54abc07f0b3926d0a6211dc904f542217e1792112679", func := "pedigree/pedigreelaw13.BloomMakes", spec := "bloomMakes", apart := false }
def BloomMakesSaid : Prop := bloomMakesRow.holds Try.pinned (OpenSpec.ofChange bloomMakesSpec)

/-- ITS FALSE NEIGHBOUR: 'it returns false'. Refute it at one input. -/
def bloomMakesWrong : ChangeSpec := { name := "bloomMakes", fn := fun _ => fun
  | [d1, d2] => { results := [.lit (.bool false)], args := [d1, d2] }
  | _ => none }
def BloomMakesWrongFalsely : Prop := bloomMakesRow.holds Try.pinned (OpenSpec.ofChange bloomMakesWrong)

/-- 'pedigreelaw13.BloomTells': WHATEVER THE INPUT: true; the input reads as it did. -/
def bloomTellsSpec : ChangeSpec := { name := "bloomTells", fn := fun _ => fun
  | [d1, d2, d3] => { results := [.lit (.bool true)], args := [d1, d2, d3] }
  | _ => none }
def bloomTellsRow : OpenClaim := { program := "ytplegohebfajlaa", sum := "187f54ad685fd880a51e54abc07f0b3926d0a6211dc904f542217e1792112679", func := "pedigree/pedigreelaw13.BloomTells", spec := "bloomTells", apart := false }
def BloomTellsSaid : Prop := bloomTellsRow.holds Try.pinned (OpenSpec.ofChange bloomTellsSpec)

/-- ITS FALSE NEIGHBOUR: 'it returns false'. Refute it at one input. -/
def bloomTellsWrong : ChangeSpec := { name := "bloomTells", fn := fun _ => fun
  | [d1, d2, d3] => { results := [.lit (.bool false)], args := [d1, d2, d3] }
  | _ => none }
def BloomTellsWrongFalsely : Prop := bloomTellsRow.holds Try.pinned (OpenSpec.ofChange bloomTellsWrong)

/-- 'pedigreelaw13.BloomTrees': WHATEVER THE INPUT: true; the input reads as it did. -/
def bloomTreesSpec : ChangeSpec := { name := "bloomTrees", fn := fun _ => fun
  | [d1, d2, d3] => { results := [.lit (.bool true)], args := [d1, d2, d3] }
  | _ => none }
def bloomTreesRow : OpenClaim := { program := "ytplegohebfajlaa", sum := "187f54ad685fd880a51e54abc07f0b3926d0a6211dc904f542217e1792112679", func := "pedigree/pedigreelaw13.BloomTrees", spec := "bloomTrees", inPlace := ["internal/bytealg.abigen_runtime_cmpstring"], apart := false }
def BloomTreesSaid : Prop := bloomTreesRow.holds Try.pinned (OpenSpec.ofChange bloomTreesSpec)

/-- ITS FALSE NEIGHBOUR: 'it returns false'. Refute it at one input. -/
def bloomTreesWrong : ChangeSpec := { name := "bloomTrees", fn := fun _ => fun
  | [d1, d2, d3] => { results := [.lit (.bool false)], args := [d1, d2, d3] }
  | _ => none }
def BloomTreesWrongFalsely : Prop := bloomTreesRow.holds Try.pinned (OpenSpec.ofChange bloomTreesWrong)

/- THE SECOND FORM. 'bulk': how many values and letters a reading holds, each counted each time it is reached (what is shared counts as often as it is met; a slice's spare places count too). A statement '..UptoSaid' is the law's where the arguments, and the package variables that the reading takes, are together of bulk at most 1048576: NARROWER than '..Said'. Prove '..Said' where nothing that the law and all that it calls make is longer than what came in: it says more and counts as full. Else prove '..UptoSaid'. A law counts once. -/
mutual
def uptoBulk {H : Type} : DataW H → Nat
  | .lit (.string bytes) => bytes.length + 1
  | .lit _ => 1
  | .nil => 1
  | .ptr d => uptoBulk d + 1
  | .slice elems spare => uptoBulkAll elems + uptoBulkAll spare + 1
  | .agg parts => uptoBulkAll parts + 1
  | .iface _ d => uptoBulk d + 1
  | .map entries => uptoBulkEntries entries + 1
  | .held _ => 1
def uptoBulkAll {H : Type} : List (DataW H) → Nat
  | [] => 0
  | d :: r => uptoBulk d + uptoBulkAll r
def uptoBulkEntries {H : Type} : List (Lit × DataW H) → Nat
  | [] => 0
  | x :: r => uptoBulkEntry x + uptoBulkEntries r
def uptoBulkEntry {H : Type} : Lit × DataW H → Nat
  | (.string bytes, d) => bytes.length + uptoBulk d + 1
  | (_, d) => uptoBulk d + 1
 end
def uptoSmall : (H : Type) → List (DataW H) → Bool := fun _ ds => decide (uptoBulkAll ds ≤ 1048576)
def OpenSpec.upto (s : _root_.Go.ChangeSpec) : _root_.Go.OpenSpec := { _root_.Go.OpenSpec.ofChange s with cond := some uptoSmall }

/-- 'pedigreelaw13.BloomHashes', WHERE WHAT IT READS IS OF BULK AT MOST 1048576: true; the input reads as it did. -/
def bloomHashesUptoRow : OpenClaim := { program := "ytplegohebfajlaa", sum := "187f54ad685fd880a51e54abc07f0b3926d0a6211dc904f542217e1792112679", func := "pedigree/pedigreelaw13.BloomHashes", spec := "bloomHashes", apart := false, narrowed := true }
def BloomHashesUptoSaid : Prop := bloomHashesUptoRow.holds Try.pinned (OpenSpec.upto bloomHashesSpec)

/-- 'pedigreelaw13.BloomPlaces', WHERE WHAT IT READS IS OF BULK AT MOST 1048576: true; the input reads as it did. -/
def bloomPlacesUptoRow : OpenClaim := { program := "ytplegohebfajlaa", sum := "187f54ad685fd880a51e54abc07f0b3926d0a6211dc904f542217e1792112679", func := "pedigree/pedigreelaw13.BloomPlaces", spec := "bloomPlaces", apart := false, narrowed := true }
def BloomPlacesUptoSaid : Prop := bloomPlacesUptoRow.holds Try.pinned (OpenSpec.upto bloomPlacesSpec)

/-- 'pedigreelaw13.BloomMakes', WHERE WHAT IT READS IS OF BULK AT MOST 1048576: true; the input reads as it did. -/
def bloomMakesUptoRow : OpenClaim := { program := "ytplegohebfajlaa", sum := "187f54ad685fd880a51e54abc07f0b3926d0a6211dc904f542217e1792112679", func := "pedigree/pedigreelaw13.BloomMakes", spec := "bloomMakes", apart := false, narrowed := true }
def BloomMakesUptoSaid : Prop := bloomMakesUptoRow.holds Try.pinned (OpenSpec.upto bloomMakesSpec)

/-- 'pedigreelaw13.BloomTells', WHERE WHAT IT READS IS OF BULK AT MOST 1048576: true; the input reads as it did. -/
def bloomTellsUptoRow : OpenClaim := { program := "ytplegohebfajlaa", sum := "187f54ad685fd880a51e54abc07f0b3926d0a6211dc904f542217e1792112679", func := "pedigree/pedigreelaw13.BloomTells", spec := "bloomTells", apart := false, narrowed := true }
def BloomTellsUptoSaid : Prop := bloomTellsUptoRow.holds Try.pinned (OpenSpec.upto bloomTellsSpec)

/-- 'pedigreelaw13.BloomTrees', WHERE WHAT IT READS IS OF BULK AT MOST 1048576: true; the input reads as it did. -/
def bloomTreesUptoRow : OpenClaim := { program := "ytplegohebfajlaa", sum := "187f54ad685fd880a51e54abc07f0b3926d0a6211dc904f542217e1792112679", func := "pedigree/pedigreelaw13.BloomTrees", spec := "bloomTrees", inPlace := ["internal/bytealg.abigen_runtime_cmpstring"], apart := false, narrowed := true }
def BloomTreesUptoSaid : Prop := bloomTreesUptoRow.holds Try.pinned (OpenSpec.upto bloomTreesSpec)

end Rows
end Go.Proofs.Ytplegohebfajlaa
