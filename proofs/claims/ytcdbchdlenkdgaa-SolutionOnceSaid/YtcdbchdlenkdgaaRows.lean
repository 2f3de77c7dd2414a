/-
  No cell of these rows narrows 'for every input' (looked for: loops, veiled, ifaces, maps, wideKeys, modest, calm, conditions, laid).
  DERIVED. THE GIVEN ROWS OF THIS SEAT. 13 by the template 'for every input the law returns true; each argument reads behind the call as it read before'; 0 by the template 'total and deterministic' (their statements: YtcdbchdlenkdgaaTotals.lean).
  GIVEN WITH THE SEED: the statements are not yours to turn. If you find one false, say at which input.
  Laid BY PROGRAM, IN A SANDBOX (cutbox-rows.mjs): the forced cells as the released guide's own fill.sh prints them over the translation c28ec6cb82072ad6… (all of the seat's roots in one cut). By AI agents, Wed Nov 11 2026. No macro, syntax, notation, axiom, sorry.
-/
import Derived.Test.YtcdbchdlenkdgaaChecked
import GoSem.Claim
import GoSem.ClaimJoined
import GoSem.ClaimMapViews
import Derived.JoinedTies
import Derived.KernelRfl
namespace Go.Proofs.Ytcdbchdlenkdgaa
/- THE CELL 'sum', in the pinned program and in every row, IS THE sha256 OF THE DUMP (.gsa) THAT YtcdbchdlenkdgaaProg.lean LOADS. Nothing in Lean hashes anything: it is a label: what it is worth is what the hold of that sum in a sandbox is worth. -/
noncomputable def Try.pinned : Pinned := { name := "ytcdbchdlenkdgaa", sum := "c28ec6cb82072ad682ee11e08bc17e6a16b0b0ddd62de0a1daac6ac47defe659", checked := Try.checked }
namespace Rows
def none {H : Type} : Left H := { results := [], args := [] }

/-- 'psephoslaw03.CompactTakes': WHATEVER THE INPUT: true; the input reads as it did. -/
def compactTakesSpec : ChangeSpec := { name := "compactTakes", fn := fun _ => fun
  | [d] => { results := [.lit (.bool true)], args := [d] }
  | _ => none }
def compactTakesRow : OpenClaim := { program := "ytcdbchdlenkdgaa", sum := "c28ec6cb82072ad682ee11e08bc17e6a16b0b0ddd62de0a1daac6ac47defe659", func := "psephos/psephoslaw03.CompactTakes", spec := "compactTakes", apart := false }
def CompactTakesSaid : Prop := compactTakesRow.holds Try.pinned (OpenSpec.ofChange compactTakesSpec)

/-- ITS FALSE NEIGHBOUR: 'it returns false'. Refute it at one input. -/
def compactTakesWrong : ChangeSpec := { name := "compactTakes", fn := fun _ => fun
  | [d] => { results := [.lit (.bool false)], args := [d] }
  | _ => none }
def CompactTakesWrongFalsely : Prop := compactTakesRow.holds Try.pinned (OpenSpec.ofChange compactTakesWrong)

/-- 'psephoslaw03.CompactTakesLists': WHATEVER THE INPUT: true; the input reads as it did. -/
def compactTakesListsSpec : ChangeSpec := { name := "compactTakesLists", fn := fun _ => fun
  | [d1, d2] => { results := [.lit (.bool true)], args := [d1, d2] }
  | _ => none }
def compactTakesListsRow : OpenClaim := { program := "ytcdbchdlenkdgaa", sum := "c28ec6cb82072ad682ee11e08bc17e6a16b0b0ddd62de0a1daac6ac47defe659", func := "psephos/psephoslaw03.CompactTakesLists", spec := "compactTakesLists", apart := false }
def CompactTakesListsSaid : Prop := compactTakesListsRow.holds Try.pinned (OpenSpec.ofChange compactTakesListsSpec)

/-- ITS FALSE NEIGHBOUR: 'it returns false'. Refute it at one input. -/
def compactTakesListsWrong : ChangeSpec := { name := "compactTakesLists", fn := fun _ => fun
  | [d1, d2] => { results := [.lit (.bool false)], args := [d1, d2] }
  | _ => none }
def CompactTakesListsWrongFalsely : Prop := compactTakesListsRow.holds Try.pinned (OpenSpec.ofChange compactTakesListsWrong)

/-- 'psephoslaw03.CompactAppends': WHATEVER THE INPUT: true; the input reads as it did. -/
def compactAppendsSpec : ChangeSpec := { name := "compactAppends", fn := fun _ => fun
  | [d1, d2, d3] => { results := [.lit (.bool true)], args := [d1, d2, d3] }
  | _ => none }
def compactAppendsRow : OpenClaim := { program := "ytcdbchdlenkdgaa", sum := "c28ec6cb82072ad682ee11e08bc17e6a16b0b0ddd62de0a1daac6ac47defe659", func := "psephos/psephoslaw03.CompactAppends", spec := "compactAppends", apart := false }
def CompactAppendsSaid : Prop := compactAppendsRow.holds Try.pinned (OpenSpec.ofChange compactAppendsSpec)

/-- ITS FALSE NEIGHBOUR: 'it returns false'. Refute it at one input. -/
def compactAppendsWrong : ChangeSpec := { name := "compactAppends", fn := fun _ => fun
  | [d1, d2, d3] => { results := [.lit (.bool false)], args := [d1, d2, d3] }
  | _ => none }
def CompactAppendsWrongFalsely : Prop := compactAppendsRow.holds Try.pinned (OpenSpec.ofChange compactAppendsWrong)

/-- 'psephoslaw03.CompactCuts': WHATEVER THE INPUT: true; the input reads as it did. -/
def compactCutsSpec : ChangeSpec := { name := "compactCuts", fn := fun _ => fun
  | [d1, d2] => { results := [.lit (.bool true)], args := [d1, d2] }
  | _ => none }
def compactCutsRow : OpenClaim := { program := "ytcdbchdlenkdgaa", sum := "c28ec6cb82072ad682ee11e08bc17e6a16b0b0ddd62de0a1daac6ac47defe659", func := "psephos/psephoslaw03.CompactCuts", spec := "compactCuts", apart := false }
def CompactCutsSaid : Prop := compactCutsRow.holds Try.pinned (OpenSpec.ofChange compactCutsSpec)

/-- ITS FALSE NEIGHBOUR: 'it returns false'. Refute it at one input. -/
def compactCutsWrong : ChangeSpec := { name := "compactCuts", fn := fun _ => fun
  | [d1, d2] => { results := [.lit (.bool false)], args := [d1, d2] }
  | _ => none }
def CompactCutsWrongFalsely : Prop := compactCutsRow.holds Try.pinned (OpenSpec.ofChange compactCutsWrong)

/-- 'psephoslaw03.CompactRises': WHATEVER THE INPUT: true; the input reads as it did. -/
def compactRisesSpec : ChangeSpec := { name := "compactRises", fn := fun _ => fun
  | [d1, d2] => { results := [.lit (.bool true)], args := [d1, d2] }
  | _ => none }
def compactRisesRow : OpenClaim := { program := "ytcdbchdlenkdgaa", sum := "c28ec6cb82072ad682ee11e08bc17e6a16b0b0ddd62de0a1daac6ac47defe659", func := "psephos/psephoslaw03.CompactRises", spec := "compactRises", apart := false }
def CompactRisesSaid : Prop := compactRisesRow.holds Try.pinned (OpenSpec.ofChange compactRisesSpec)

/-- ITS FALSE NEIGHBOUR: 'it returns false'. Refute it at one input. -/
def compactRisesWrong : ChangeSpec := { name := "compactRises", fn := fun _ => fun
  | [d1, d2] => { results := [.lit (.bool false)], args := [d1, d2] }
  | _ => none }
def CompactRisesWrongFalsely : Prop := compactRisesRow.holds Try.pinned (OpenSpec.ofChange compactRisesWrong)

/-- 'psephoslaw03.CompactLists': WHATEVER THE INPUT: true; the input reads as it did. -/
def compactListsSpec : ChangeSpec := { name := "compactLists", fn := fun _ => fun
  | [d1, d2, d3] => { results := [.lit (.bool true)], args := [d1, d2, d3] }
  | _ => none }
def compactListsRow : OpenClaim := { program := "ytcdbchdlenkdgaa", sum := "c28ec6cb82072ad682ee11e08bc17e6a16b0b0ddd62de0a1daac6ac47defe659", func := "psephos/psephoslaw03.CompactLists", spec := "compactLists", apart := false }
def CompactListsSaid : Prop := compactListsRow.holds Try.pinned (OpenSpec.ofChange compactListsSpec)

/-- ITS FALSE NEIGHBOUR: 'it returns false'. Refute it at one input. -/
def compactListsWrong : ChangeSpec := { name := "compactLists", fn := fun _ => fun
  | [d1, d2, d3] => { results := [.lit (.bool false)], args := [d1, d2, d3] }
  | _ => none }
def CompactListsWrongFalsely : Prop := compactListsRow.holds Try.pinned (OpenSpec.ofChange compactListsWrong)

/-- 'psephoslaw15.SolutionEncodes': WHATEVER THE INPUT: true; the input reads as it did. -/
def solutionEncodesSpec : ChangeSpec := { name := "solutionEncodes", fn := fun _ => fun
  | [d] => { results := [.lit (.bool true)], args := [d] }
  | _ => none }
def solutionEncodesRow : OpenClaim := { program := "ytcdbchdlenkdgaa", sum := "c28ec6cb82072ad682ee11e08bc17e6a16b0b0ddd62de0a1daac6ac47defe659", func := "psephos/psephoslaw15.SolutionEncodes", spec := "solutionEncodes", apart := false }
def SolutionEncodesSaid : Prop := solutionEncodesRow.holds Try.pinned (OpenSpec.ofChange solutionEncodesSpec)

/-- ITS FALSE NEIGHBOUR: 'it returns false'. Refute it at one input. -/
def solutionEncodesWrong : ChangeSpec := { name := "solutionEncodes", fn := fun _ => fun
  | [d] => { results := [.lit (.bool false)], args := [d] }
  | _ => none }
def SolutionEncodesWrongFalsely : Prop := solutionEncodesRow.holds Try.pinned (OpenSpec.ofChange solutionEncodesWrong)

/-- 'psephoslaw15.SolutionDecodes': WHATEVER THE INPUT: true; the input reads as it did. -/
def solutionDecodesSpec : ChangeSpec := { name := "solutionDecodes", fn := fun _ => fun
  | [d] => { results := [.lit (.bool true)], args := [d] }
  | _ => none }
def solutionDecodesRow : OpenClaim := { program := "ytcdbchdlenkdgaa", sum := "c28ec6cb82072ad682ee11e08bc17e6a16b0b0ddd62de0a1daac6ac47defe659", func := "psephos/psephoslaw15.SolutionDecodes", spec := "solutionDecodes", apart := false }
def SolutionDecodesSaid : Prop := solutionDecodesRow.holds Try.pinned (OpenSpec.ofChange solutionDecodesSpec)

/-- ITS FALSE NEIGHBOUR: 'it returns false'. Refute it at one input. -/
def solutionDecodesWrong : ChangeSpec := { name := "solutionDecodes", fn := fun _ => fun
  | [d] => { results := [.lit (.bool false)], args := [d] }
  | _ => none }
def SolutionDecodesWrongFalsely : Prop := solutionDecodesRow.holds Try.pinned (OpenSpec.ofChange solutionDecodesWrong)

/-- 'psephoslaw15.SolutionOnce': WHATEVER THE INPUT: true; the input reads as it did. -/
def solutionOnceSpec : ChangeSpec := { name := "solutionOnce", fn := fun _ => fun
  | [d1, d2, d3] => { results := [.lit (.bool true)], args := [d1, d2, d3] }
  | _ => none }
def solutionOnceRow : OpenClaim := { program := "ytcdbchdlenkdgaa", sum := "c28ec6cb82072ad682ee11e08bc17e6a16b0b0ddd62de0a1daac6ac47defe659", func := "psephos/psephoslaw15.SolutionOnce", spec := "solutionOnce", apart := false }
def SolutionOnceSaid : Prop := solutionOnceRow.holds Try.pinned (OpenSpec.ofChange solutionOnceSpec)

/-- ITS FALSE NEIGHBOUR: 'it returns false'. Refute it at one input. -/
def solutionOnceWrong : ChangeSpec := { name := "solutionOnce", fn := fun _ => fun
  | [d1, d2, d3] => { results := [.lit (.bool false)], args := [d1, d2, d3] }
  | _ => none }
def SolutionOnceWrongFalsely : Prop := solutionOnceRow.holds Try.pinned (OpenSpec.ofChange solutionOnceWrong)

/-- 'psephoslaw22.CallsEncode': WHATEVER THE INPUT: true; the input reads as it did. -/
def callsEncodeSpec : ChangeSpec := { name := "callsEncode", fn := fun _ => fun
  | [d] => { results := [.lit (.bool true)], args := [d] }
  | _ => none }
def callsEncodeRow : OpenClaim := { program := "ytcdbchdlenkdgaa", sum := "c28ec6cb82072ad682ee11e08bc17e6a16b0b0ddd62de0a1daac6ac47defe659", func := "psephos/psephoslaw22.CallsEncode", spec := "callsEncode", apart := false }
def CallsEncodeSaid : Prop := callsEncodeRow.holds Try.pinned (OpenSpec.ofChange callsEncodeSpec)

/-- ITS FALSE NEIGHBOUR: 'it returns false'. Refute it at one input. -/
def callsEncodeWrong : ChangeSpec := { name := "callsEncode", fn := fun _ => fun
  | [d] => { results := [.lit (.bool false)], args := [d] }
  | _ => none }
def CallsEncodeWrongFalsely : Prop := callsEncodeRow.holds Try.pinned (OpenSpec.ofChange callsEncodeWrong)

/-- 'psephoslaw22.CallsDecode': WHATEVER THE INPUT: true; the input reads as it did. -/
def callsDecodeSpec : ChangeSpec := { name := "callsDecode", fn := fun _ => fun
  | [d] => { results := [.lit (.bool true)], args := [d] }
  | _ => none }
def callsDecodeRow : OpenClaim := { program := "ytcdbchdlenkdgaa", sum := "c28ec6cb82072ad682ee11e08bc17e6a16b0b0ddd62de0a1daac6ac47defe659", func := "psephos/psephoslaw22.CallsDecode", spec := "callsDecode", apart := false }
def CallsDecodeSaid : Prop := callsDecodeRow.holds Try.pinned (OpenSpec.ofChange callsDecodeSpec)

/-- ITS FALSE NEIGHBOUR: 'it returns false'. Refute it at one input. -/
def callsDecodeWrong : ChangeSpec := { name := "callsDecode", fn := fun _ => fun
  | [d] => { results := [.lit (.bool false)], args := [d] }
  | _ => none }
def CallsDecodeWrongFalsely : Prop := callsDecodeRow.holds Try.pinned (OpenSpec.ofChange callsDecodeWrong)

/-- 'psephoslaw22.CallsCut': WHATEVER THE INPUT: true; the input reads as it did. -/
def callsCutSpec : ChangeSpec := { name := "callsCut", fn := fun _ => fun
  | [d1, d2, d3] => { results := [.lit (.bool true)], args := [d1, d2, d3] }
  | _ => none }
def callsCutRow : OpenClaim := { program := "ytcdbchdlenkdgaa", sum := "c28ec6cb82072ad682ee11e08bc17e6a16b0b0ddd62de0a1daac6ac47defe659", func := "psephos/psephoslaw22.CallsCut", spec := "callsCut", apart := false }
def CallsCutSaid : Prop := callsCutRow.holds Try.pinned (OpenSpec.ofChange callsCutSpec)

/-- ITS FALSE NEIGHBOUR: 'it returns false'. Refute it at one input. -/
def callsCutWrong : ChangeSpec := { name := "callsCut", fn := fun _ => fun
  | [d1, d2, d3] => { results := [.lit (.bool false)], args := [d1, d2, d3] }
  | _ => none }
def CallsCutWrongFalsely : Prop := callsCutRow.holds Try.pinned (OpenSpec.ofChange callsCutWrong)

/-- 'psephoslaw22.CallsOnce': WHATEVER THE INPUT: true; the input reads as it did. -/
def callsOnceSpec : ChangeSpec := { name := "callsOnce", fn := fun _ => fun
  | [d] => { results := [.lit (.bool true)], args := [d] }
  | _ => none }
def callsOnceRow : OpenClaim := { program := "ytcdbchdlenkdgaa", sum := "c28ec6cb82072ad682ee11e08bc17e6a16b0b0ddd62de0a1daac6ac47defe659", func := "psephos/psephoslaw22.CallsOnce", spec := "callsOnce", apart := false }
def CallsOnceSaid : Prop := callsOnceRow.holds Try.pinned (OpenSpec.ofChange callsOnceSpec)

/-- ITS FALSE NEIGHBOUR: 'it returns false'. Refute it at one input. -/
def callsOnceWrong : ChangeSpec := { name := "callsOnce", fn := fun _ => fun
  | [d] => { results := [.lit (.bool false)], args := [d] }
  | _ => none }
def CallsOnceWrongFalsely : Prop := callsOnceRow.holds Try.pinned (OpenSpec.ofChange callsOnceWrong)

/- THE SECOND FORM. 'bulk': how many values and letters a reading holds, each counted each time it is reached (what is shared counts as often as it is met; a slice's spare places count too). A statement '..UptoSaid' is the law's where the arguments, and the package variables that the reading takes, are together of bulk at most 1048576: NARROWER than '..Said'. Prove '..Said' where nothing that the law and all that it calls make is longer than what came in: it says more and counts as full. Else prove '..UptoSaid'. A law counts once. -/
mutual
def uptoBulk {H : Type} : DataW H → Nat
  | .lit (.string bytes) => bytes.length + 1
  | .lit _ => 1
  | .nil => 1
  | .ptr d => uptoBulk d + 1
  | .slice elems spare => uptoBulkAll elems + uptoBulkAll spare + 1
  | .agg parts => uptoBulkAll parts + 1
  | .iface _ d => uptoBulk d + 1
  | .map entries => uptoBulkEntries entries + 1
  | .held _ => 1
def uptoBulkAll {H : Type} : List (DataW H) → Nat
  | [] => 0
  | d :: r => uptoBulk d + uptoBulkAll r
def uptoBulkEntries {H : Type} : List (Lit × DataW H) → Nat
  | [] => 0
  | x :: r => uptoBulkEntry x + uptoBulkEntries r
def uptoBulkEntry {H : Type} : Lit × DataW H → Nat
  | (.string bytes, d) => bytes.length + uptoBulk d + 1
  | (_, d) => uptoBulk d + 1
 end
def uptoSmall : (H : Type) → List (DataW H) → Bool := fun _ ds => decide (uptoBulkAll ds ≤ 1048576)
def OpenSpec.upto (s : _root_.Go.ChangeSpec) : _root_.Go.OpenSpec := { _root_.Go.OpenSpec.ofChange s with cond := some uptoSmall }

/-- 'psephoslaw03.CompactTakes', WHERE WHAT IT READS IS OF BULK AT MOST 1048576: true; the input reads as it did. -/
def compactTakesUptoRow : OpenClaim := { program := "ytcdbchdlenkdgaa", sum := "c28ec6cb82072ad682ee11e08bc17e6a16b0b0ddd62de0a1daac6ac47defe659", func := "psephos/psephoslaw03.CompactTakes", spec := "compactTakes", apart := false, narrowed := true }
def CompactTakesUptoSaid : Prop := compactTakesUptoRow.holds Try.pinned (OpenSpec.upto compactTakesSpec)

/-- 'psephoslaw03.CompactTakesLists', WHERE WHAT IT READS IS OF BULK AT MOST 1048576: true; the input reads as it did. -/
def compactTakesListsUptoRow : OpenClaim := { program := "ytcdbchdlenkdgaa", sum := "c28ec6cb82072ad682ee11e08bc17e6a16b0b0ddd62de0a1daac6ac47defe659", func := "psephos/psephoslaw03.CompactTakesLists", spec := "compactTakesLists", apart := false, narrowed := true }
def CompactTakesListsUptoSaid : Prop := compactTakesListsUptoRow.holds Try.pinned (OpenSpec.upto compactTakesListsSpec)

/-- 'psephoslaw03.CompactAppends', WHERE WHAT IT READS IS OF BULK AT MOST 1048576: true; the input reads as it did. -/
def compactAppendsUptoRow : OpenClaim := { program := "ytcdbchdlenkdgaa", sum := "c28ec6cb82072ad682ee11e08bc17e6a16b0b0ddd62de0a1daac6ac47defe659", func := "psephos/psephoslaw03.CompactAppends", spec := "compactAppends", apart := false, narrowed := true }
def CompactAppendsUptoSaid : Prop := compactAppendsUptoRow.holds Try.pinned (OpenSpec.upto compactAppendsSpec)

/-- 'psephoslaw03.CompactCuts', WHERE WHAT IT READS IS OF BULK AT MOST 1048576: true; the input reads as it did. -/
def compactCutsUptoRow : OpenClaim := { program := "ytcdbchdlenkdgaa", sum := "c28ec6cb82072ad682ee11e08bc17e6a16b0b0ddd62de0a1daac6ac47defe659", func := "psephos/psephoslaw03.CompactCuts", spec := "compactCuts", apart := false, narrowed := true }
def CompactCutsUptoSaid : Prop := compactCutsUptoRow.holds Try.pinned (OpenSpec.upto compactCutsSpec)

/-- 'psephoslaw03.CompactRises', WHERE WHAT IT READS IS OF BULK AT MOST 1048576: true; the input reads as it did. -/
def compactRisesUptoRow : OpenClaim := { program := "ytcdbchdlenkdgaa", sum := "c28ec6cb82072ad682ee11e08bc17e6a16b0b0ddd62de0a1daac6ac47defe659", func := "psephos/psephoslaw03.CompactRises", spec := "compactRises", apart := false, narrowed := true }
def CompactRisesUptoSaid : Prop := compactRisesUptoRow.holds Try.pinned (OpenSpec.upto compactRisesSpec)

/-- 'psephoslaw03.CompactLists', WHERE WHAT IT READS IS OF BULK AT MOST 1048576: true; the input reads as it did. -/
def compactListsUptoRow : OpenClaim := { program := "ytcdbchdlenkdgaa", sum := "c28ec6cb82072ad682ee11e08bc17e6a16b0b0ddd62de0a1daac6ac47defe659", func := "psephos/psephoslaw03.CompactLists", spec := "compactLists", apart := false, narrowed := true }
def CompactListsUptoSaid : Prop := compactListsUptoRow.holds Try.pinned (OpenSpec.upto compactListsSpec)

/-- 'psephoslaw15.SolutionEncodes', WHERE WHAT IT READS IS OF BULK AT MOST 1048576: true; the input reads as it did. -/
def solutionEncodesUptoRow : OpenClaim := { program := "ytcdbchdlenkdgaa", sum := "c28ec6cb82072ad682ee11e08bc17e6a16b0b0ddd62de0a1daac6ac47defe659", func := "psephos/psephoslaw15.SolutionEncodes", spec := "solutionEncodes", apart := false, narrowed := true }
def SolutionEncodesUptoSaid : Prop := solutionEncodesUptoRow.holds Try.pinned (OpenSpec.upto solutionEncodesSpec)

/-- 'psephoslaw15.SolutionDecodes', WHERE WHAT IT READS IS OF BULK AT MOST 1048576: true; the input reads as it did. -/
def solutionDecodesUptoRow : OpenClaim := { program := "ytcdbchdlenkdgaa", sum := "c28ec6cb82072ad682ee11e08bc17e6a16b0b0ddd62de0a1daac6ac47defe659", func := "psephos/psephoslaw15.SolutionDecodes", spec := "solutionDecodes", apart := false, narrowed := true }
def SolutionDecodesUptoSaid : Prop := solutionDecodesUptoRow.holds Try.pinned (OpenSpec.upto solutionDecodesSpec)

/-- 'psephoslaw15.SolutionOnce', WHERE WHAT IT READS IS OF BULK AT MOST 1048576: true; the input reads as it did. -/
def solutionOnceUptoRow : OpenClaim := { program := "ytcdbchdlenkdgaa", sum := "c28ec6cb82072ad682ee11e08bc17e6a16b0b0ddd62de0a1daac6ac47defe659", func := "psephos/psephoslaw15.SolutionOnce", spec := "solutionOnce", apart := false, narrowed := true }
def SolutionOnceUptoSaid : Prop := solutionOnceUptoRow.holds Try.pinned (OpenSpec.upto solutionOnceSpec)

/-- 'psephoslaw22.CallsEncode', WHERE WHAT IT READS IS OF BULK AT MOST 1048576: true; the input reads as it did. -/
def callsEncodeUptoRow : OpenClaim := { program := "ytcdbchdlenkdgaa", sum := "c28ec6cb82072ad682ee11e08bc17e6a16b0b0ddd62de0a1daac6ac47defe659", func := "psephos/psephoslaw22.CallsEncode", spec := "callsEncode", apart := false, narrowed := true }
def CallsEncodeUptoSaid : Prop := callsEncodeUptoRow.holds Try.pinned (OpenSpec.upto callsEncodeSpec)

/-- 'psephoslaw22.CallsDecode', WHERE WHAT IT READS IS OF BULK AT MOST 1048576: true; the input reads as it did. -/
def callsDecodeUptoRow : OpenClaim := { program := "ytcdbchdlenkdgaa", sum := "c28ec6cb82072ad682ee11e08bc17e6a16b0b0ddd62de0a1daac6ac47defe659", func := "psephos/psephoslaw22.CallsDecode", spec := "callsDecode", apart := false, narrowed := true }
def CallsDecodeUptoSaid : Prop := callsDecodeUptoRow.holds Try.pinned (OpenSpec.upto callsDecodeSpec)

/-- 'psephoslaw22.CallsCut', WHERE WHAT IT READS IS OF BULK AT MOST 1048576: true; the input reads as it did. -/
def callsCutUptoRow : OpenClaim := { program := "ytcdbchdlenkdgaa", sum := "c28ec6cb82072ad682ee11e08bc17e6a16b0b0ddd62de0a1daac6ac47defe659", func := "psephos/psephoslaw22.CallsCut", spec := "callsCut", apart := false, narrowed := true }
def CallsCutUptoSaid : Prop := callsCutUptoRow.holds Try.pinned (OpenSpec.upto callsCutSpec)

/-- 'psephoslaw22.CallsOnce', WHERE WHAT IT READS IS OF BULK AT MOST 1048576: true; the input reads as it did. -/
def callsOnceUptoRow : OpenClaim := { program := "ytcdbchdlenkdgaa", sum := "c28ec6cb82072ad682ee11e08bc17e6a16b0b0ddd62de0a1daac6ac47defe659", func := "psephos/psephoslaw22.CallsOnce", spec := "callsOnce", apart := false, narrowed := true }
def CallsOnceUptoSaid : Prop := callsOnceUptoRow.holds Try.pinned (OpenSpec.upto callsOnceSpec)

end Rows
end Go.Proofs.Ytcdbchdlenkdgaa
