/-
  No cell of these rows narrows 'for every input' (looked for: loops, veiled, ifaces, maps, wideKeys, modest, calm, conditions, laid).
  DERIVED. THE GIVEN ROWS OF THIS SEAT. 3 by the template 'for every input the law returns true; each argument reads behind the call as it read before'; 0 by the template 'total and deterministic' (their statements: YtpbiilndmcnnfaaTotals.lean).
  GIVEN WITH THE SEED: the statements are not yours to turn. If you find one false, say at which input.
  Laid BY PROGRAM, IN A SANDBOX (cutbox-rows.mjs): the forced cells as the released guide's own fill.sh prints them over the translation cf5aa0da72fdf9df… (all of the seat's roots in one cut). By AI agents, Wed Nov 11 2026. No macro, syntax, notation, axiom, sorry.
-/
import Derived.Test.YtpbiilndmcnnfaaChecked
import GoSem.Claim
import GoSem.ClaimJoined
import GoSem.ClaimMapViews
import Derived.JoinedTies
import Derived.KernelRfl
namespace Go.Proofs.Ytpbiilndmcnnfaa
/- THE CELL 'sum', in the pinned program and in every row, IS THE sha256 OF THE DUMP (.gsa) THAT YtpbiilndmcnnfaaProg.lean LOADS. Nothing in Lean hashes anything: it is a label: what it is worth is what the hold of that sum in a sandbox is worth. -/
noncomputable def Try.pinned : Pinned := { name := "ytpbiilndmcnnfaa", sum := "cf5aa0da72fdf9dfecf991e01a047a1a1af076fbde22482128005135f7deba6e", checked := Try.checked }
namespace Rows
def none {H : Type} : Left H := { results := [], args := [] }

/-- 'psephoslaw21.SpansPlay': WHATEVER THE INPUT: true; the input reads as it did. -/
def spansPlaySpec : ChangeSpec := { name := "spansPlay", fn := fun _ => fun
  | [d1, d2] => { results := [.lit (.bool true)], args := [d1, d2] }
  | _ => none }
def spansPlayRow : OpenClaim := { program := "ytpbiilndmcnnfaa", sum := "cf5aa0da72fdf9dfecf991e01a047a1a1af076fbde22482128005135f7deba6e", func := "psephos/psephoslaw21.SpansPlay", spec := "spansPlay", apart := false }
def SpansPlaySaid : Prop := spansPlayRow.holds Try.pinned (OpenSpec.ofChange spansPlaySpec)

/-- ITS FALSE NEIGHBOUR: 'it returns false'. Refute it at one input. -/
def spansPlayWrong : ChangeSpec := { name := "spansPlay", fn := fun _ => fun
  | [d1, d2] => { results := [.lit (.bool false)], args := [d1, d2] }
  | _ => none }
def SpansPlayWrongFalsely : Prop := spansPlayRow.holds Try.pinned (OpenSpec.ofChange spansPlayWrong)

/-- 'psephoslaw21.SpansGreatest': WHATEVER THE INPUT: true; the input reads as it did. -/
def spansGreatestSpec : ChangeSpec := { name := "spansGreatest", fn := fun _ => fun
  | [d] => { results := [.lit (.bool true)], args := [d] }
  | _ => none }
def spansGreatestRow : OpenClaim := { program := "ytpbiilndmcnnfaa", sum := "cf5aa0da72fdf9dfecf991e01a047a1a1af076fbde22482128005135f7deba6e", func := "psephos/psephoslaw21.SpansGreatest", spec := "spansGreatest", apart := false }
def SpansGreatestSaid : Prop := spansGreatestRow.holds Try.pinned (OpenSpec.ofChange spansGreatestSpec)

/-- ITS FALSE NEIGHBOUR: 'it returns false'. Refute it at one input. -/
def spansGreatestWrong : ChangeSpec := { name := "spansGreatest", fn := fun _ => fun
  | [d] => { results := [.lit (.bool false)], args := [d] }
  | _ => none }
def SpansGreatestWrongFalsely : Prop := spansGreatestRow.holds Try.pinned (OpenSpec.ofChange spansGreatestWrong)

/-- 'psephoslaw21.SpansNil': WHATEVER THE INPUT: true; the input reads as it did. -/
def spansNilSpec : ChangeSpec := { name := "spansNil", fn := fun _ => fun
  | [d] => { results := [.lit (.bool true)], args := [d] }
  | _ => none }
def spansNilRow : OpenClaim := { program := "ytpbiilndmcnnfaa", sum := "cf5aa0da72fdf9dfecf991e01a047a1a1af076fbde22482128005135f7deba6e", func := "psephos/psephoslaw21.SpansNil", spec := "spansNil", apart := false }
def SpansNilSaid : Prop := spansNilRow.holds Try.pinned (OpenSpec.ofChange spansNilSpec)

/-- ITS FALSE NEIGHBOUR: 'it returns false'. Refute it at one input. -/
def spansNilWrong : ChangeSpec := { name := "spansNil", fn := fun _ => fun
  | [d] => { results := [.lit (.bool false)], args := [d] }
  | _ => none }
def SpansNilWrongFalsely : Prop := spansNilRow.holds Try.pinned (OpenSpec.ofChange spansNilWrong)

/- THE SECOND FORM. 'bulk': how many values and letters a reading holds, each counted each time it is reached (what is shared counts as often as it is met; a slice's spare places count too). A statement '..UptoSaid' is the law's where the arguments, and the package variables that the reading takes, are together of bulk at most 1048576: NARROWER than '..Said'. Prove '..Said' where nothing that the law and all that it calls make is longer than what came in: it says more and counts as full. Else prove '..UptoSaid'. A law counts once. -/
mutual
def uptoBulk {H : Type} : DataW H → Nat
  | .lit (.string bytes) => bytes.length + 1
  | .lit _ => 1
  | .nil => 1
  | .ptr d => uptoBulk d + 1
  | .slice elems spare => uptoBulkAll elems + uptoBulkAll spare + 1
  | .agg parts => uptoBulkAll parts + 1
  | .iface _ d => uptoBulk d + 1
  | .map entries => uptoBulkEntries entries + 1
  | .held _ => 1
def uptoBulkAll {H : Type} : List (DataW H) → Nat
  | [] => 0
  | d :: r => uptoBulk d + uptoBulkAll r
def uptoBulkEntries {H : Type} : List (Lit × DataW H) → Nat
  | [] => 0
  | x :: r => uptoBulkEntry x + uptoBulkEntries r
def uptoBulkEntry {H : Type} : Lit × DataW H → Nat
  | (.string bytes, d) => bytes.length + uptoBulk d + 1
  | (_, d) => uptoBulk d + 1
 end
def uptoSmall : (H : Type) → List (DataW H) → Bool := fun _ ds => decide (uptoBulkAll ds ≤ 1048576)
def OpenSpec.upto (s : _root_.Go.ChangeSpec) : _root_.Go.OpenSpec := { _root_.Go.OpenSpec.ofChange s with cond := some uptoSmall }

/-- 'psephoslaw21.SpansPlay', WHERE WHAT IT READS IS OF BULK AT MOST 1048576: true; the input reads as it did. -/
def spansPlayUptoRow : OpenClaim := { program := "ytpbiilndmcnnfaa", sum := "cf5aa0da72fdf9dfecf991e01a047a1a1af076fbde22482128005135f7deba6e", func := "psephos/psephoslaw21.SpansPlay", spec := "spansPlay", apart := false, narrowed := true }
def SpansPlayUptoSaid : Prop := spansPlayUptoRow.holds Try.pinned (OpenSpec.upto spansPlaySpec)

/-- 'psephoslaw21.SpansGreatest', WHERE WHAT IT READS IS OF BULK AT MOST 1048576: true; the input reads as it did. -/
def spansGreatestUptoRow : OpenClaim := { program := "ytpbiilndmcnnfaa", sum := "cf5aa0da72fdf9dfecf991e01a047a1a1af076fbde22482128005135f7deba6e", func := "psephos/psephoslaw21.SpansGreatest", spec := "spansGreatest", apart := false, narrowed := true }
def SpansGreatestUptoSaid : Prop := spansGreatestUptoRow.holds Try.pinned (OpenSpec.upto spansGreatestSpec)

/-- 'psephoslaw21.SpansNil', WHERE WHAT IT READS IS OF BULK AT MOST 1048576: true; the input reads as it did. -/
def spansNilUptoRow : OpenClaim := { program := "ytpbiilndmcnnfaa", sum := "cf5aa0da72fdf9dfecf991e01a047a1a1af076fbde22482128005135f7deba6e", func := "psephos/psephoslaw21.SpansNil", spec := "spansNil", apart := false, narrowed := true }
def SpansNilUptoSaid : Prop := spansNilUptoRow.holds Try.pinned (OpenSpec.upto spansNilSpec)

end Rows
end Go.Proofs.Ytpbiilndmcnnfaa
