/-
  No cell of these rows narrows 'for every input' (looked for: loops, veiled, ifaces, maps, wideKeys, modest, calm, conditions, laid).
  DERIVED. THE GIVEN ROWS OF THIS SEAT. 3 by the template 'for every input the law returns true; each argument reads behind the call as it read before'; 0 by the template 'total and deterministic' (their statements: YtaifgalpeaaliaaTotals.lean).
  GIVEN WITH THE SEED: the statements are not yours to turn. If you find one false, say at which input.
  Laid BY PROGRAM, IN A SANDBOX (cutbox-rows.mjs): the forced cells as the released guide's own fill.sh prints them over the translation 9af0fe81f529d3d9… (all of the seat's roots in one cut). By AI agents, Wed Nov 11 2026. No macro, syntax, notation, axiom, sorry.
-/
import Derived.Test.YtaifgalpeaaliaaChecked
import GoSem.Claim
import GoSem.ClaimJoined
import GoSem.ClaimMapViews
import Derived.JoinedTies
import Derived.KernelRfl
namespace Go.Proofs.Ytaifgalpeaaliaa
/- THE CELL 'sum', in the pinned program and in every row, IS THE sha256 OF THE DUMP (.gsa) THAT YtaifgalpeaaliaaProg.lean LOADS. Nothing in Lean hashes anything: it is a label: what it is worth is what the hold of that sum in a sandbox is worth. -/
noncomputable def Try.pinned : Pinned := { name := "ytaifgalpeaaliaa", sum := "9af0fe81f529d3d9ef808cb31cc410b3dddf94aea858953eaae9577c23fbf309", checked := Try.checked }
namespace Rows
def none {H : Type} : Left H := { results := [], args := [] }

/-- 'psephoslaw05.MarksNil': WHATEVER THE INPUT: true; the input reads as it did. -/
def marksNilSpec : ChangeSpec := { name := "marksNil", fn := fun _ => fun
  | [d] => { results := [.lit (.bool true)], args := [d] }
  | _ => none }
def marksNilRow : OpenClaim := { program := "ytaifgalpeaaliaa", sum := "9af0fe81f529d3d9ef808cb31cc410b3dddf94aea858953eaae9577c23fbf309", func := "psephos/psephoslaw05.MarksNil", spec := "marksNil", apart := false }
def MarksNilSaid : Prop := marksNilRow.holds Try.pinned (OpenSpec.ofChange marksNilSpec)

/-- ITS FALSE NEIGHBOUR: 'it returns false'. Refute it at one input. -/
def marksNilWrong : ChangeSpec := { name := "marksNil", fn := fun _ => fun
  | [d] => { results := [.lit (.bool false)], args := [d] }
  | _ => none }
def MarksNilWrongFalsely : Prop := marksNilRow.holds Try.pinned (OpenSpec.ofChange marksNilWrong)

/-- 'psephoslaw05.MarksPlay': WHATEVER THE INPUT: true; the input reads as it did. -/
def marksPlaySpec : ChangeSpec := { name := "marksPlay", fn := fun _ => fun
  | [d1, d2] => { results := [.lit (.bool true)], args := [d1, d2] }
  | _ => none }
def marksPlayRow : OpenClaim := { program := "ytaifgalpeaaliaa", sum := "9af0fe81f529d3d9ef808cb31cc410b3dddf94aea858953eaae9577c23fbf309", func := "psephos/psephoslaw05.MarksPlay", spec := "marksPlay", apart := false }
def MarksPlaySaid : Prop := marksPlayRow.holds Try.pinned (OpenSpec.ofChange marksPlaySpec)

/-- ITS FALSE NEIGHBOUR: 'it returns false'. Refute it at one input. -/
def marksPlayWrong : ChangeSpec := { name := "marksPlay", fn := fun _ => fun
  | [d1, d2] => { results := [.lit (.bool false)], args := [d1, d2] }
  | _ => none }
def MarksPlayWrongFalsely : Prop := marksPlayRow.holds Try.pinned (OpenSpec.ofChange marksPlayWrong)

/-- 'psephoslaw05.MarksOf': WHATEVER THE INPUT: true; the input reads as it did. -/
def marksOfSpec : ChangeSpec := { name := "marksOf", fn := fun _ => fun
  | [d1, d2] => { results := [.lit (.bool true)], args := [d1, d2] }
  | _ => none }
def marksOfRow : OpenClaim := { program := "ytaifgalpeaaliaa", sum := "9af0fe81f529d3d9ef808cb31cc410b3dddf94aea858953eaae9577c23fbf309", func := "psephos/psephoslaw05.MarksOf", spec := "marksOf", apart := false }
def MarksOfSaid : Prop := marksOfRow.holds Try.pinned (OpenSpec.ofChange marksOfSpec)

/-- ITS FALSE NEIGHBOUR: 'it returns false'. Refute it at one input. -/
def marksOfWrong : ChangeSpec := { name := "marksOf", fn := fun _ => fun
  | [d1, d2] => { results := [.lit (.bool false)], args := [d1, d2] }
  | _ => none }
def MarksOfWrongFalsely : Prop := marksOfRow.holds Try.pinned (OpenSpec.ofChange marksOfWrong)

/- THE SECOND FORM. 'bulk': how many values and letters a reading holds, each counted each time it is reached (what is shared counts as often as it is met; a slice's spare places count too). A statement '..UptoSaid' is the law's where the arguments, and the package variables that the reading takes, are together of bulk at most 1048576: NARROWER than '..Said'. Prove '..Said' where nothing that the law and all that it calls make is longer than what came in: it says more and counts as full. Else prove '..UptoSaid'. A law counts once. -/
mutual
def uptoBulk {H : Type} : DataW H → Nat
  | .lit (.string bytes) => bytes.length + 1
  | .lit _ => 1
  | .nil => 1
  | .ptr d => uptoBulk d + 1
  | .slice elems spare => uptoBulkAll elems + uptoBulkAll spare + 1
  | .agg parts => uptoBulkAll parts + 1
  | .iface _ d => uptoBulk d + 1
  | .map entries => uptoBulkEntries entries + 1
  | .held _ => 1
def uptoBulkAll {H : Type} : List (DataW H) → Nat
  | [] => 0
  | d :: r => uptoBulk d + uptoBulkAll r
def uptoBulkEntries {H : Type} : List (Lit × DataW H) → Nat
  | [] => 0
  | x :: r => uptoBulkEntry x + uptoBulkEntries r
def uptoBulkEntry {H : Type} : Lit × DataW H → Nat
  | (.string bytes, d) => bytes.length + uptoBulk d + 1
  | (_, d) => uptoBulk d + 1
 end
def uptoSmall : (H : Type) → List (DataW H) → Bool := fun _ ds => decide (uptoBulkAll ds ≤ 1048576)
def OpenSpec.upto (s : _root_.Go.ChangeSpec) : _root_.Go.OpenSpec := { _root_.Go.OpenSpec.ofChange s with cond := some uptoSmall }

/-- 'psephoslaw05.MarksNil', WHERE WHAT IT READS IS OF BULK AT MOST 1048576: true; the input reads as it did. -/
def marksNilUptoRow : OpenClaim := { program := "ytaifgalpeaaliaa", sum := "9af0fe81f529d3d9ef808cb31cc410b3dddf94aea858953eaae9577c23fbf309", func := "psephos/psephoslaw05.MarksNil", spec := "marksNil", apart := false, narrowed := true }
def MarksNilUptoSaid : Prop := marksNilUptoRow.holds Try.pinned (OpenSpec.upto marksNilSpec)

/-- 'psephoslaw05.MarksPlay', WHERE WHAT IT READS IS OF BULK AT MOST 1048576: true; the input reads as it did. -/
def marksPlayUptoRow : OpenClaim := { program := "ytaifgalpeaaliaa", sum := "9af0fe81f529d3d9ef808cb31cc410b3dddf94aea858953eaae9577c23fbf309", func := "psephos/psephoslaw05.MarksPlay", spec := "marksPlay", apart := false, narrowed := true }
def MarksPlayUptoSaid : Prop := marksPlayUptoRow.holds Try.pinned (OpenSpec.upto marksPlaySpec)

/-- 'psephoslaw05.MarksOf', WHERE WHAT IT READS IS OF BULK AT MOST 1048576: true; the input reads as it did. -/
def marksOfUptoRow : OpenClaim := { program := "ytaifgalpeaaliaa", sum := "9af0fe81f529d3d9ef808cb31cc410b3dddf94aea858953eaae9577c23fbf309", func := "psephos/psephoslaw05.MarksOf", spec := "marksOf", apart := false, narrowed := true }
def MarksOfUptoSaid : Prop := marksOfUptoRow.holds Try.pinned (OpenSpec.upto marksOfSpec)

end Rows
end Go.Proofs.Ytaifgalpeaaliaa
