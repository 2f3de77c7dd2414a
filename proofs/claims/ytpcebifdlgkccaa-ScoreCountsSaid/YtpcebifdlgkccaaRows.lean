/-
  No cell of these rows narrows 'for every input' (looked for: loops, veiled, ifaces, maps, wideKeys, modest, calm, conditions, laid).
  DERIVED. THE GIVEN ROWS OF THIS SEAT. 2 by the template 'for every input the law returns true; each argument reads behind the call as it read before'; 0 by the template 'total and deterministic' (their statements: YtpcebifdlgkccaaTotals.lean).
  GIVEN WITH THE SEED: the statements are not yours to turn. If you find one false, say at which input.
  Laid BY PROGRAM, IN A SANDBOX (cutbox-rows.mjs): the forced cells as the released guide's own fill.sh prints them over the translation 2053b7e03842bf4a… (all of the seat's roots in one cut). By AI agents, Wed Nov 11 2026. No macro, syntax, notation, axiom, sorry.
-/
import Derived.Test.YtpcebifdlgkccaaChecked
import GoSem.Claim
import GoSem.ClaimJoined
import GoSem.ClaimMapViews
import Derived.JoinedTies
import Derived.KernelRfl
namespace Go.Proofs.Ytpcebifdlgkccaa
/- THE CELL 'sum', in the pinned program and in every row, IS THE sha256 OF THE DUMP (.gsa) THAT YtpcebifdlgkccaaProg.lean LOADS. Nothing in Lean hashes anything: it is a label: what it is worth is what the hold of that sum in a sandbox is worth. -/
noncomputable def Try.pinned : Pinned := { name := "ytpcebifdlgkccaa", sum := "2053b7e03842bf4aa2d010b4edac75cae86fee255a716af1bdd5268c436f70fa", checked := Try.checked }
namespace Rows
def none {H : Type} : Left H := { results := [], args := [] }

/-- 'psephoslaw14.ScoreCounts': WHATEVER THE INPUT: true; the input reads as it did. -/
def scoreCountsSpec : ChangeSpec := { name := "scoreCounts", fn := fun _ => fun
  | [d1, d2, d3] => { results := [.lit (.bool true)], args := [d1, d2, d3] }
  | _ => none }
def scoreCountsRow : OpenClaim := { program := "ytpcebifdlgkccaa", sum := "2053b7e03842bf4aa2d010b4edac75cae86fee255a716af1bdd5268c436f70fa", func := "psephos/psephoslaw14.ScoreCounts", spec := "scoreCounts", apart := false }
def ScoreCountsSaid : Prop := scoreCountsRow.holds Try.pinned (OpenSpec.ofChange scoreCountsSpec)

/-- ITS FALSE NEIGHBOUR: 'it returns false'. Refute it at one input. -/
def scoreCountsWrong : ChangeSpec := { name := "scoreCounts", fn := fun _ => fun
  | [d1, d2, d3] => { results := [.lit (.bool false)], args := [d1, d2, d3] }
  | _ => none }
def ScoreCountsWrongFalsely : Prop := scoreCountsRow.holds Try.pinned (OpenSpec.ofChange scoreCountsWrong)

/-- 'psephoslaw14.ScoreBetter': WHATEVER THE INPUT: true; the input reads as it did. -/
def scoreBetterSpec : ChangeSpec := { name := "scoreBetter", fn := fun _ => fun
  | [d1, d2, d3] => { results := [.lit (.bool true)], args := [d1, d2, d3] }
  | _ => none }
def scoreBetterRow : OpenClaim := { program := "ytpcebifdlgkccaa", sum := "2053b7e03842bf4aa2d010b4edac75cae86fee255a716af1bdd5268c436f70fa", func := "psephos/psephoslaw14.ScoreBetter", spec := "scoreBetter", apart := false }
def ScoreBetterSaid : Prop := scoreBetterRow.holds Try.pinned (OpenSpec.ofChange scoreBetterSpec)

/-- ITS FALSE NEIGHBOUR: 'it returns false'. Refute it at one input. -/
def scoreBetterWrong : ChangeSpec := { name := "scoreBetter", fn := fun _ => fun
  | [d1, d2, d3] => { results := [.lit (.bool false)], args := [d1, d2, d3] }
  | _ => none }
def ScoreBetterWrongFalsely : Prop := scoreBetterRow.holds Try.pinned (OpenSpec.ofChange scoreBetterWrong)

/- THE SECOND FORM. 'bulk': how many values and letters a reading holds, each counted each time it is reached (what is shared counts as often as it is met; a slice's spare places count too). A statement '..UptoSaid' is the law's where the arguments, and the package variables that the reading takes, are together of bulk at most 1048576: NARROWER than '..Said'. Prove '..Said' where nothing that the law and all that it calls make is longer than what came in: it says more and counts as full. Else prove '..UptoSaid'. A law counts once. -/
mutual
def uptoBulk {H : Type} : DataW H → Nat
  | .lit (.string bytes) => bytes.length + 1
  | .lit _ => 1
  | .nil => 1
  | .ptr d => uptoBulk d + 1
  | .slice elems spare => uptoBulkAll elems + uptoBulkAll spare + 1
  | .agg parts => uptoBulkAll parts + 1
  | .iface _ d => uptoBulk d + 1
  | .map entries => uptoBulkEntries entries + 1
  | .held _ => 1
def uptoBulkAll {H : Type} : List (DataW H) → Nat
  | [] => 0
  | d :: r => uptoBulk d + uptoBulkAll r
def uptoBulkEntries {H : Type} : List (Lit × DataW H) → Nat
  | [] => 0
  | x :: r => uptoBulkEntry x + uptoBulkEntries r
def uptoBulkEntry {H : Type} : Lit × DataW H → Nat
  | (.string bytes, d) => bytes.length + uptoBulk d + 1
  | (_, d) => uptoBulk d + 1
 end
def uptoSmall : (H : Type) → List (DataW H) → Bool := fun _ ds => decide (uptoBulkAll ds ≤ 1048576)
def OpenSpec.upto (s : _root_.Go.ChangeSpec) : _root_.Go.OpenSpec := { _root_.Go.OpenSpec.ofChange s with cond := some uptoSmall }

/-- 'psephoslaw14.ScoreCounts', WHERE WHAT IT READS IS OF BULK AT MOST 1048576: true; the input reads as it did. -/
def scoreCountsUptoRow : OpenClaim := { program := "ytpcebifdlgkccaa", sum := "2053b7e03842bf4aa2d010b4edac75cae86fee255a716af1bdd5268c436f70fa", func := "psephos/psephoslaw14.ScoreCounts", spec := "scoreCounts", apart := false, narrowed := true }
def ScoreCountsUptoSaid : Prop := scoreCountsUptoRow.holds Try.pinned (OpenSpec.upto scoreCountsSpec)

/-- 'psephoslaw14.ScoreBetter', WHERE WHAT IT READS IS OF BULK AT MOST 1048576: true; the input reads as it did. -/
def scoreBetterUptoRow : OpenClaim := { program := "ytpcebifdlgkccaa", sum := "2053b7e03842bf4aa2d010b4edac75cae86fee255a716af1bdd5268c436f70fa", func := "psephos/psephoslaw14.ScoreBetter", spec := "scoreBetter", apart := false, narrowed := true }
def ScoreBetterUptoSaid : Prop := scoreBetterUptoRow.holds Try.pinned (OpenSpec.upto scoreBetterSpec)

end Rows
end Go.Proofs.Ytpcebifdlgkccaa
