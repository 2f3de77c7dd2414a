/-
  No cell of these rows narrows 'for every input' (looked for: loops, veiled, ifaces, maps, wideKeys, modest, calm, conditions, laid).
  DERIVED. THE GIVEN ROWS OF THIS SEAT. 5 by the template 'for every input the law returns true; each argument reads behind the call as it read before'; 0 by the template 'total and deterministic' (their statements: YtpndkelbchjkiaaTotals.lean).
  GIVEN WITH THE SEED: the statements are not yours to turn. If you find one false, say at which input.
  Laid BY PROGRAM, IN A SANDBOX (cutbox-rows.mjs): the forced cells as the released guide's own fill.sh prints them over the translation 39efed0b82982bf8… (all of the seat's roots in one cut). By AI agents, Wed Nov 11 2026. No macro, syntax, notation, axiom, sorry.
-/
import Derived.Test.YtpndkelbchjkiaaChecked
import GoSem.Claim
import GoSem.ClaimJoined
import GoSem.ClaimMapViews
import Derived.JoinedTies
import Derived.KernelRfl
namespace Go.Proofs.Ytpndkelbchjkiaa
/- THE CELL 'sum', in the pinned program and in every row, IS THE sha256 OF THE DUMP (.gsa) THAT YtpndkelbchjkiaaProg.lean LOADS. Nothing in Lean hashes anything: it is a label: what it is worth is what the hold of that sum in a sandbox is worth. -/
noncomputable def Try.pinned : Pinned := { name := "ytpndkelbchjkiaa", sum := "39efed0b82982bf83e19d5ac18a99d5089e02333e84b86d2e153fe21fdd41f82", checked := Try.checked }
namespace Rows
def none {H : Type} : Left H := { results := [], args := [] }

/-- 'psephoslaw07.LedgerKeeps': WHATEVER THE INPUT: true; the input reads as it did. -/
def ledgerKeepsSpec : ChangeSpec := { name := "ledgerKeeps", fn := fun _ => fun
  | [d1, d2, d3] => { results := [.lit (.bool true)], args := [d1, d2, d3] }
  | _ => none }
def ledgerKeepsRow : OpenClaim := { program := "ytpndkelbchjkiaa", sum := "39efed0b82982bf83e19d5ac18a99d5089e02333e84b86d2e153fe21fdd41f82", func := "psephos/psephoslaw07.LedgerKeeps", spec := "ledgerKeeps", inPlace := ["slices.overlaps[psephos/ledger.Chunk]"], unfollowed := true, recurses := true, apart := false }
def LedgerKeepsSaid : Prop := ledgerKeepsRow.holds Try.pinned (OpenSpec.ofChange ledgerKeepsSpec)

/-- ITS FALSE NEIGHBOUR: 'it returns false'. Refute it at one input. -/
def ledgerKeepsWrong : ChangeSpec := { name := "ledgerKeeps", fn := fun _ => fun
  | [d1, d2, d3] => { results := [.lit (.bool false)], args := [d1, d2, d3] }
  | _ => none }
def LedgerKeepsWrongFalsely : Prop := ledgerKeepsRow.holds Try.pinned (OpenSpec.ofChange ledgerKeepsWrong)

/-- 'psephoslaw07.LedgerSlashes': WHATEVER THE INPUT: true; the input reads as it did. -/
def ledgerSlashesSpec : ChangeSpec := { name := "ledgerSlashes", fn := fun _ => fun
  | [d1, d2, d3, d4] => { results := [.lit (.bool true)], args := [d1, d2, d3, d4] }
  | _ => none }
def ledgerSlashesRow : OpenClaim := { program := "ytpndkelbchjkiaa", sum := "39efed0b82982bf83e19d5ac18a99d5089e02333e84b86d2e153fe21fdd41f82", func := "psephos/psephoslaw07.LedgerSlashes", spec := "ledgerSlashes", inPlace := ["slices.overlaps[psephos/ledger.Chunk]"], unfollowed := true, recurses := true, apart := false }
def LedgerSlashesSaid : Prop := ledgerSlashesRow.holds Try.pinned (OpenSpec.ofChange ledgerSlashesSpec)

/-- ITS FALSE NEIGHBOUR: 'it returns false'. Refute it at one input. -/
def ledgerSlashesWrong : ChangeSpec := { name := "ledgerSlashes", fn := fun _ => fun
  | [d1, d2, d3, d4] => { results := [.lit (.bool false)], args := [d1, d2, d3, d4] }
  | _ => none }
def LedgerSlashesWrongFalsely : Prop := ledgerSlashesRow.holds Try.pinned (OpenSpec.ofChange ledgerSlashesWrong)

/-- 'psephoslaw07.LedgerPlays': WHATEVER THE INPUT: true; the input reads as it did. -/
def ledgerPlaysSpec : ChangeSpec := { name := "ledgerPlays", fn := fun _ => fun
  | [d1, d2] => { results := [.lit (.bool true)], args := [d1, d2] }
  | _ => none }
def ledgerPlaysRow : OpenClaim := { program := "ytpndkelbchjkiaa", sum := "39efed0b82982bf83e19d5ac18a99d5089e02333e84b86d2e153fe21fdd41f82", func := "psephos/psephoslaw07.LedgerPlays", spec := "ledgerPlays", inPlace := ["slices.overlaps[psephos/ledger.Chunk]"], unfollowed := true, recurses := true, apart := false }
def LedgerPlaysSaid : Prop := ledgerPlaysRow.holds Try.pinned (OpenSpec.ofChange ledgerPlaysSpec)

/-- ITS FALSE NEIGHBOUR: 'it returns false'. Refute it at one input. -/
def ledgerPlaysWrong : ChangeSpec := { name := "ledgerPlays", fn := fun _ => fun
  | [d1, d2] => { results := [.lit (.bool false)], args := [d1, d2] }
  | _ => none }
def LedgerPlaysWrongFalsely : Prop := ledgerPlaysRow.holds Try.pinned (OpenSpec.ofChange ledgerPlaysWrong)

/-- 'psephoslaw07.LedgerWhole': WHATEVER THE INPUT: true; the input reads as it did. -/
def ledgerWholeSpec : ChangeSpec := { name := "ledgerWhole", fn := fun _ => fun
  | [d1, d2] => { results := [.lit (.bool true)], args := [d1, d2] }
  | _ => none }
def ledgerWholeRow : OpenClaim := { program := "ytpndkelbchjkiaa", sum := "39efed0b82982bf83e19d5ac18a99d5089e02333e84b86d2e153fe21fdd41f82", func := "psephos/psephoslaw07.LedgerWhole", spec := "ledgerWhole", inPlace := ["slices.overlaps[psephos/ledger.Chunk]"], unfollowed := true, recurses := true, apart := false }
def LedgerWholeSaid : Prop := ledgerWholeRow.holds Try.pinned (OpenSpec.ofChange ledgerWholeSpec)

/-- ITS FALSE NEIGHBOUR: 'it returns false'. Refute it at one input. -/
def ledgerWholeWrong : ChangeSpec := { name := "ledgerWhole", fn := fun _ => fun
  | [d1, d2] => { results := [.lit (.bool false)], args := [d1, d2] }
  | _ => none }
def LedgerWholeWrongFalsely : Prop := ledgerWholeRow.holds Try.pinned (OpenSpec.ofChange ledgerWholeWrong)

/-- 'psephoslaw07.LedgerNil': WHATEVER THE INPUT: true; the input reads as it did. -/
def ledgerNilSpec : ChangeSpec := { name := "ledgerNil", fn := fun _ => fun
  | [d] => { results := [.lit (.bool true)], args := [d] }
  | _ => none }
def ledgerNilRow : OpenClaim := { program := "ytpndkelbchjkiaa", sum := "39efed0b82982bf83e19d5ac18a99d5089e02333e84b86d2e153fe21fdd41f82", func := "psephos/psephoslaw07.LedgerNil", spec := "ledgerNil", inPlace := ["slices.overlaps[psephos/ledger.Chunk]"], unfollowed := true, recurses := true, apart := false }
def LedgerNilSaid : Prop := ledgerNilRow.holds Try.pinned (OpenSpec.ofChange ledgerNilSpec)

/-- ITS FALSE NEIGHBOUR: 'it returns false'. Refute it at one input. -/
def ledgerNilWrong : ChangeSpec := { name := "ledgerNil", fn := fun _ => fun
  | [d] => { results := [.lit (.bool false)], args := [d] }
  | _ => none }
def LedgerNilWrongFalsely : Prop := ledgerNilRow.holds Try.pinned (OpenSpec.ofChange ledgerNilWrong)

/- THE SECOND FORM. 'bulk': how many values and letters a reading holds, each counted each time it is reached (what is shared counts as often as it is met; a slice's spare places count too). A statement '..UptoSaid' is the law's where the arguments, and the package variables that the reading takes, are together of bulk at most 1048576: NARROWER than '..Said'. Prove '..Said' where nothing that the law and all that it calls make is longer than what came in: it says more and counts as full. Else prove '..UptoSaid'. A law counts once. -/
mutual
def uptoBulk {H : Type} : DataW H → Nat
  | .lit (.string bytes) => bytes.length + 1
  | .lit _ => 1
  | .nil => 1
  | .ptr d => uptoBulk d + 1
  | .slice elems spare => uptoBulkAll elems + uptoBulkAll spare + 1
  | .agg parts => uptoBulkAll parts + 1
  | .iface _ d => uptoBulk d + 1
  | .map entries => uptoBulkEntries entries + 1
  | .held _ => 1
def uptoBulkAll {H : Type} : List (DataW H) → Nat
  | [] => 0
  | d :: r => uptoBulk d + uptoBulkAll r
def uptoBulkEntries {H : Type} : List (Lit × DataW H) → Nat
  | [] => 0
  | x :: r => uptoBulkEntry x + uptoBulkEntries r
def uptoBulkEntry {H : Type} : Lit × DataW H → Nat
  | (.string bytes, d) => bytes.length + uptoBulk d + 1
  | (_, d) => uptoBulk d + 1
 end
def uptoSmall : (H : Type) → List (DataW H) → Bool := fun _ ds => decide (uptoBulkAll ds ≤ 1048576)
def OpenSpec.upto (s : _root_.Go.ChangeSpec) : _root_.Go.OpenSpec := { _root_.Go.OpenSpec.ofChange s with cond := some uptoSmall }

/-- 'psephoslaw07.LedgerKeeps', WHERE WHAT IT READS IS OF BULK AT MOST 1048576: true; the input reads as it did. -/
def ledgerKeepsUptoRow : OpenClaim := { program := "ytpndkelbchjkiaa", sum := "39efed0b82982bf83e19d5ac18a99d5089e02333e84b86d2e153fe21fdd41f82", func := "psephos/psephoslaw07.LedgerKeeps", spec := "ledgerKeeps", inPlace := ["slices.overlaps[psephos/ledger.Chunk]"], unfollowed := true, recurses := true, apart := false, narrowed := true }
def LedgerKeepsUptoSaid : Prop := ledgerKeepsUptoRow.holds Try.pinned (OpenSpec.upto ledgerKeepsSpec)

/-- 'psephoslaw07.LedgerSlashes', WHERE WHAT IT READS IS OF BULK AT MOST 1048576: true; the input reads as it did. -/
def ledgerSlashesUptoRow : OpenClaim := { program := "ytpndkelbchjkiaa", sum := "39efed0b82982bf83e19d5ac18a99d5089e02333e84b86d2e153fe21fdd41f82", func := "psephos/psephoslaw07.LedgerSlashes", spec := "ledgerSlashes", inPlace := ["slices.overlaps[psephos/ledger.Chunk]"], unfollowed := true, recurses := true, apart := false, narrowed := true }
def LedgerSlashesUptoSaid : Prop := ledgerSlashesUptoRow.holds Try.pinned (OpenSpec.upto ledgerSlashesSpec)

/-- 'psephoslaw07.LedgerPlays', WHERE WHAT IT READS IS OF BULK AT MOST 1048576: true; the input reads as it did. -/
def ledgerPlaysUptoRow : OpenClaim := { program := "ytpndkelbchjkiaa", sum := "39efed0b82982bf83e19d5ac18a99d5089e02333e84b86d2e153fe21fdd41f82", func := "psephos/psephoslaw07.LedgerPlays", spec := "ledgerPlays", inPlace := ["slices.overlaps[psephos/ledger.Chunk]"], unfollowed := true, recurses := true, apart := false, narrowed := true }
def LedgerPlaysUptoSaid : Prop := ledgerPlaysUptoRow.holds Try.pinned (OpenSpec.upto ledgerPlaysSpec)

/-- 'psephoslaw07.LedgerWhole', WHERE WHAT IT READS IS OF BULK AT MOST 1048576: true; the input reads as it did. -/
def ledgerWholeUptoRow : OpenClaim := { program := "ytpndkelbchjkiaa", sum := "39efed0b82982bf83e19d5ac18a99d5089e02333e84b86d2e153fe21fdd41f82", func := "psephos/psephoslaw07.LedgerWhole", spec := "ledgerWhole", inPlace := ["slices.overlaps[psephos/ledger.Chunk]"], unfollowed := true, recurses := true, apart := false, narrowed := true }
def LedgerWholeUptoSaid : Prop := ledgerWholeUptoRow.holds Try.pinned (OpenSpec.upto ledgerWholeSpec)

/-- 'psephoslaw07.LedgerNil', WHERE WHAT IT READS IS OF BULK AT MOST 1048576: true; the input reads as it did. -/
def ledgerNilUptoRow : OpenClaim := { program := "ytpndkelbchjkiaa", sum := "39efed0b82982bf83e19d5ac18a99d5089e02333e84b86d2e153fe21fdd41f82", func := "psephos/psephoslaw07.LedgerNil", spec := "ledgerNil", inPlace := ["slices.overlaps[psephos/ledger.Chunk]"], unfollowed := true, recurses := true, apart := false, narrowed := true }
def LedgerNilUptoSaid : Prop := ledgerNilUptoRow.holds Try.pinned (OpenSpec.upto ledgerNilSpec)

end Rows
end Go.Proofs.Ytpndkelbchjkiaa
