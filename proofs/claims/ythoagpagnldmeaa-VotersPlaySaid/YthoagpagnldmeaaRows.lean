/-
  No cell of these rows narrows 'for every input' (looked for: loops, veiled, ifaces, maps, wideKeys, modest, calm, conditions, laid).
  DERIVED. THE GIVEN ROWS OF THIS SEAT. 8 by the template 'for every input the law returns true; each argument reads behind the call as it read before'; 0 by the template 'total and deterministic' (their statements: YthoagpagnldmeaaTotals.lean).
  GIVEN WITH THE SEED: the statements are not yours to turn. If you find one false, say at which input.
  Laid BY PROGRAM, IN A SANDBOX (cutbox-rows.mjs): the forced cells as the released guide's own fill.sh prints them over the translation d5ae7d49df708bbf… (all of the seat's roots in one cut). By AI agents, Wed Nov 11 2026. No macro, syntax, notation, axiom, sorry.
-/
import Derived.Test.YthoagpagnldmeaaChecked
import GoSem.Claim
import GoSem.ClaimJoined
import GoSem.ClaimMapViews
import Derived.JoinedTies
import Derived.KernelRfl
namespace Go.Proofs.Ythoagpagnldmeaa
/- THE CELL 'sum', in the pinned program and in every row, IS THE sha256 OF THE DUMP (.gsa) THAT YthoagpagnldmeaaProg.lean LOADS. Nothing in Lean hashes anything: it is a label: what it is worth is what the hold of that sum in a sandbox is worth. -/
noncomputable def Try.pinned : Pinned := { name := "ythoagpagnldmeaa", sum := "d5ae7d49df708bbff782028e1b85cfcd00b23da6af315656ea4edd859d036e69", checked := Try.checked }
namespace Rows
def none {H : Type} : Left H := { results := [], args := [] }

/-- 'psephoslaw04.ChainStops': WHATEVER THE INPUT: true; the input reads as it did. -/
def chainStopsSpec : ChangeSpec := { name := "chainStops", fn := fun _ => fun
  | [d1, d2] => { results := [.lit (.bool true)], args := [d1, d2] }
  | _ => none }
def chainStopsRow : OpenClaim := { program := "ythoagpagnldmeaa", sum := "d5ae7d49df708bbff782028e1b85cfcd00b23da6af315656ea4edd859d036e69", func := "psephos/psephoslaw04.ChainStops", spec := "chainStops", unfollowed := true, recurses := true, apart := false }
def ChainStopsSaid : Prop := chainStopsRow.holds Try.pinned (OpenSpec.ofChange chainStopsSpec)

/-- ITS FALSE NEIGHBOUR: 'it returns false'. Refute it at one input. -/
def chainStopsWrong : ChangeSpec := { name := "chainStops", fn := fun _ => fun
  | [d1, d2] => { results := [.lit (.bool false)], args := [d1, d2] }
  | _ => none }
def ChainStopsWrongFalsely : Prop := chainStopsRow.holds Try.pinned (OpenSpec.ofChange chainStopsWrong)

/-- 'psephoslaw04.ChainTexts': WHATEVER THE INPUT: true; the input reads as it did. -/
def chainTextsSpec : ChangeSpec := { name := "chainTexts", fn := fun _ => fun
  | [d] => { results := [.lit (.bool true)], args := [d] }
  | _ => none }
def chainTextsRow : OpenClaim := { program := "ythoagpagnldmeaa", sum := "d5ae7d49df708bbff782028e1b85cfcd00b23da6af315656ea4edd859d036e69", func := "psephos/psephoslaw04.ChainTexts", spec := "chainTexts", unfollowed := true, recurses := true, apart := false }
def ChainTextsSaid : Prop := chainTextsRow.holds Try.pinned (OpenSpec.ofChange chainTextsSpec)

/-- ITS FALSE NEIGHBOUR: 'it returns false'. Refute it at one input. -/
def chainTextsWrong : ChangeSpec := { name := "chainTexts", fn := fun _ => fun
  | [d] => { results := [.lit (.bool false)], args := [d] }
  | _ => none }
def ChainTextsWrongFalsely : Prop := chainTextsRow.holds Try.pinned (OpenSpec.ofChange chainTextsWrong)

/-- 'psephoslaw04.ChainPlays': WHATEVER THE INPUT: true; the input reads as it did. -/
def chainPlaysSpec : ChangeSpec := { name := "chainPlays", fn := fun _ => fun
  | [d1, d2] => { results := [.lit (.bool true)], args := [d1, d2] }
  | _ => none }
def chainPlaysRow : OpenClaim := { program := "ythoagpagnldmeaa", sum := "d5ae7d49df708bbff782028e1b85cfcd00b23da6af315656ea4edd859d036e69", func := "psephos/psephoslaw04.ChainPlays", spec := "chainPlays", unfollowed := true, recurses := true, apart := false }
def ChainPlaysSaid : Prop := chainPlaysRow.holds Try.pinned (OpenSpec.ofChange chainPlaysSpec)

/-- ITS FALSE NEIGHBOUR: 'it returns false'. Refute it at one input. -/
def chainPlaysWrong : ChangeSpec := { name := "chainPlays", fn := fun _ => fun
  | [d1, d2] => { results := [.lit (.bool false)], args := [d1, d2] }
  | _ => none }
def ChainPlaysWrongFalsely : Prop := chainPlaysRow.holds Try.pinned (OpenSpec.ofChange chainPlaysWrong)

/-- 'psephoslaw04.ChainNil': WHATEVER THE INPUT: true; the input reads as it did. -/
def chainNilSpec : ChangeSpec := { name := "chainNil", fn := fun _ => fun
  | [d] => { results := [.lit (.bool true)], args := [d] }
  | _ => none }
def chainNilRow : OpenClaim := { program := "ythoagpagnldmeaa", sum := "d5ae7d49df708bbff782028e1b85cfcd00b23da6af315656ea4edd859d036e69", func := "psephos/psephoslaw04.ChainNil", spec := "chainNil", unfollowed := true, recurses := true, apart := false }
def ChainNilSaid : Prop := chainNilRow.holds Try.pinned (OpenSpec.ofChange chainNilSpec)

/-- ITS FALSE NEIGHBOUR: 'it returns false'. Refute it at one input. -/
def chainNilWrong : ChangeSpec := { name := "chainNil", fn := fun _ => fun
  | [d] => { results := [.lit (.bool false)], args := [d] }
  | _ => none }
def ChainNilWrongFalsely : Prop := chainNilRow.holds Try.pinned (OpenSpec.ofChange chainNilWrong)

/-- 'psephoslaw09.VotersStop': WHATEVER THE INPUT: true; the input reads as it did. -/
def votersStopSpec : ChangeSpec := { name := "votersStop", fn := fun _ => fun
  | [d1, d2, d3] => { results := [.lit (.bool true)], args := [d1, d2, d3] }
  | _ => none }
def votersStopRow : OpenClaim := { program := "ythoagpagnldmeaa", sum := "d5ae7d49df708bbff782028e1b85cfcd00b23da6af315656ea4edd859d036e69", func := "psephos/psephoslaw09.VotersStop", spec := "votersStop", unfollowed := true, recurses := true, apart := false }
def VotersStopSaid : Prop := votersStopRow.holds Try.pinned (OpenSpec.ofChange votersStopSpec)

/-- ITS FALSE NEIGHBOUR: 'it returns false'. Refute it at one input. -/
def votersStopWrong : ChangeSpec := { name := "votersStop", fn := fun _ => fun
  | [d1, d2, d3] => { results := [.lit (.bool false)], args := [d1, d2, d3] }
  | _ => none }
def VotersStopWrongFalsely : Prop := votersStopRow.holds Try.pinned (OpenSpec.ofChange votersStopWrong)

/-- 'psephoslaw09.VotersPlay': WHATEVER THE INPUT: true; the input reads as it did. -/
def votersPlaySpec : ChangeSpec := { name := "votersPlay", fn := fun _ => fun
  | [d1, d2, d3] => { results := [.lit (.bool true)], args := [d1, d2, d3] }
  | _ => none }
def votersPlayRow : OpenClaim := { program := "ythoagpagnldmeaa", sum := "d5ae7d49df708bbff782028e1b85cfcd00b23da6af315656ea4edd859d036e69", func := "psephos/psephoslaw09.VotersPlay", spec := "votersPlay", unfollowed := true, recurses := true, apart := false }
def VotersPlaySaid : Prop := votersPlayRow.holds Try.pinned (OpenSpec.ofChange votersPlaySpec)

/-- ITS FALSE NEIGHBOUR: 'it returns false'. Refute it at one input. -/
def votersPlayWrong : ChangeSpec := { name := "votersPlay", fn := fun _ => fun
  | [d1, d2, d3] => { results := [.lit (.bool false)], args := [d1, d2, d3] }
  | _ => none }
def VotersPlayWrongFalsely : Prop := votersPlayRow.holds Try.pinned (OpenSpec.ofChange votersPlayWrong)

/-- 'psephoslaw09.VotersSettle': WHATEVER THE INPUT: true; the input reads as it did. -/
def votersSettleSpec : ChangeSpec := { name := "votersSettle", fn := fun _ => fun
  | [d1, d2] => { results := [.lit (.bool true)], args := [d1, d2] }
  | _ => none }
def votersSettleRow : OpenClaim := { program := "ythoagpagnldmeaa", sum := "d5ae7d49df708bbff782028e1b85cfcd00b23da6af315656ea4edd859d036e69", func := "psephos/psephoslaw09.VotersSettle", spec := "votersSettle", unfollowed := true, recurses := true, apart := false }
def VotersSettleSaid : Prop := votersSettleRow.holds Try.pinned (OpenSpec.ofChange votersSettleSpec)

/-- ITS FALSE NEIGHBOUR: 'it returns false'. Refute it at one input. -/
def votersSettleWrong : ChangeSpec := { name := "votersSettle", fn := fun _ => fun
  | [d1, d2] => { results := [.lit (.bool false)], args := [d1, d2] }
  | _ => none }
def VotersSettleWrongFalsely : Prop := votersSettleRow.holds Try.pinned (OpenSpec.ofChange votersSettleWrong)

/-- 'psephoslaw09.VotersNil': WHATEVER THE INPUT: true; the input reads as it did. -/
def votersNilSpec : ChangeSpec := { name := "votersNil", fn := fun _ => fun
  | [d] => { results := [.lit (.bool true)], args := [d] }
  | _ => none }
def votersNilRow : OpenClaim := { program := "ythoagpagnldmeaa", sum := "d5ae7d49df708bbff782028e1b85cfcd00b23da6af315656ea4edd859d036e69", func := "psephos/psephoslaw09.VotersNil", spec := "votersNil", unfollowed := true, recurses := true, apart := false }
def VotersNilSaid : Prop := votersNilRow.holds Try.pinned (OpenSpec.ofChange votersNilSpec)

/-- ITS FALSE NEIGHBOUR: 'it returns false'. Refute it at one input. -/
def votersNilWrong : ChangeSpec := { name := "votersNil", fn := fun _ => fun
  | [d] => { results := [.lit (.bool false)], args := [d] }
  | _ => none }
def VotersNilWrongFalsely : Prop := votersNilRow.holds Try.pinned (OpenSpec.ofChange votersNilWrong)

/- THE SECOND FORM. 'bulk': how many values and letters a reading holds, each counted each time it is reached (what is shared counts as often as it is met; a slice's spare places count too). A statement '..UptoSaid' is the law's where the arguments, and the package variables that the reading takes, are together of bulk at most 1048576: NARROWER than '..Said'. Prove '..Said' where nothing that the law and all that it calls make is longer than what came in: it says more and counts as full. Else prove '..UptoSaid'. A law counts once. -/
mutual
def uptoBulk {H : Type} : DataW H → Nat
  | .lit (.string bytes) => bytes.length + 1
  | .lit _ => 1
  | .nil => 1
  | .ptr d => uptoBulk d + 1
  | .slice elems spare => uptoBulkAll elems + uptoBulkAll spare + 1
  | .agg parts => uptoBulkAll parts + 1
  | .iface _ d => uptoBulk d + 1
  | .map entries => uptoBulkEntries entries + 1
  | .held _ => 1
def uptoBulkAll {H : Type} : List (DataW H) → Nat
  | [] => 0
  | d :: r => uptoBulk d + uptoBulkAll r
def uptoBulkEntries {H : Type} : List (Lit × DataW H) → Nat
  | [] => 0
  | x :: r => uptoBulkEntry x + uptoBulkEntries r
def uptoBulkEntry {H : Type} : Lit × DataW H → Nat
  | (.string bytes, d) => bytes.length + uptoBulk d + 1
  | (_, d) => uptoBulk d + 1
 end
def uptoSmall : (H : Type) → List (DataW H) → Bool := fun _ ds => decide (uptoBulkAll ds ≤ 1048576)
def OpenSpec.upto (s : _root_.Go.ChangeSpec) : _root_.Go.OpenSpec := { _root_.Go.OpenSpec.ofChange s with cond := some uptoSmall }

/-- 'psephoslaw04.ChainStops', WHERE WHAT IT READS IS OF BULK AT MOST 1048576: true; the input reads as it did. -/
def chainStopsUptoRow : OpenClaim := { program := "ythoagpagnldmeaa", sum := "d5ae7d49df708bbff782028e1b85cfcd00b23da6af315656ea4edd859d036e69", func := "psephos/psephoslaw04.ChainStops", spec := "chainStops", unfollowed := true, recurses := true, apart := false, narrowed := true }
def ChainStopsUptoSaid : Prop := chainStopsUptoRow.holds Try.pinned (OpenSpec.upto chainStopsSpec)

/-- 'psephoslaw04.ChainTexts', WHERE WHAT IT READS IS OF BULK AT MOST 1048576: true; the input reads as it did. -/
def chainTextsUptoRow : OpenClaim := { program := "ythoagpagnldmeaa", sum := "d5ae7d49df708bbff782028e1b85cfcd00b23da6af315656ea4edd859d036e69", func := "psephos/psephoslaw04.ChainTexts", spec := "chainTexts", unfollowed := true, recurses := true, apart := false, narrowed := true }
def ChainTextsUptoSaid : Prop := chainTextsUptoRow.holds Try.pinned (OpenSpec.upto chainTextsSpec)

/-- 'psephoslaw04.ChainPlays', WHERE WHAT IT READS IS OF BULK AT MOST 1048576: true; the input reads as it did. -/
def chainPlaysUptoRow : OpenClaim := { program := "ythoagpagnldmeaa", sum := "d5ae7d49df708bbff782028e1b85cfcd00b23da6af315656ea4edd859d036e69", func := "psephos/psephoslaw04.ChainPlays", spec := "chainPlays", unfollowed := true, recurses := true, apart := false, narrowed := true }
def ChainPlaysUptoSaid : Prop := chainPlaysUptoRow.holds Try.pinned (OpenSpec.upto chainPlaysSpec)

/-- 'psephoslaw04.ChainNil', WHERE WHAT IT READS IS OF BULK AT MOST 1048576: true; the input reads as it did. -/
def chainNilUptoRow : OpenClaim := { program := "ythoagpagnldmeaa", sum := "d5ae7d49df708bbff782028e1b85cfcd00b23da6af315656ea4edd859d036e69", func := "psephos/psephoslaw04.ChainNil", spec := "chainNil", unfollowed := true, recurses := true, apart := false, narrowed := true }
def ChainNilUptoSaid : Prop := chainNilUptoRow.holds Try.pinned (OpenSpec.upto chainNilSpec)

/-- 'psephoslaw09.VotersStop', WHERE WHAT IT READS IS OF BULK AT MOST 1048576: true; the input reads as it did. -/
def votersStopUptoRow : OpenClaim := { program := "ythoagpagnldmeaa", sum := "d5ae7d49df708bbff782028e1b85cfcd00b23da6af315656ea4edd859d036e69", func := "psephos/psephoslaw09.VotersStop", spec := "votersStop", unfollowed := true, recurses := true, apart := false, narrowed := true }
def VotersStopUptoSaid : Prop := votersStopUptoRow.holds Try.pinned (OpenSpec.upto votersStopSpec)

/-- 'psephoslaw09.VotersPlay', WHERE WHAT IT READS IS OF BULK AT MOST 1048576: true; the input reads as it did. -/
def votersPlayUptoRow : OpenClaim := { program := "ythoagpagnldmeaa", sum := "d5ae7d49df708bbff782028e1b85cfcd00b23da6af315656ea4edd859d036e69", func := "psephos/psephoslaw09.VotersPlay", spec := "votersPlay", unfollowed := true, recurses := true, apart := false, narrowed := true }
def VotersPlayUptoSaid : Prop := votersPlayUptoRow.holds Try.pinned (OpenSpec.upto votersPlaySpec)

/-- 'psephoslaw09.VotersSettle', WHERE WHAT IT READS IS OF BULK AT MOST 1048576: true; the input reads as it did. -/
def votersSettleUptoRow : OpenClaim := { program := "ythoagpagnldmeaa", sum := "d5ae7d49df708bbff782028e1b85cfcd00b23da6af315656ea4edd859d036e69", func := "psephos/psephoslaw09.VotersSettle", spec := "votersSettle", unfollowed := true, recurses := true, apart := false, narrowed := true }
def VotersSettleUptoSaid : Prop := votersSettleUptoRow.holds Try.pinned (OpenSpec.upto votersSettleSpec)

/-- 'psephoslaw09.VotersNil', WHERE WHAT IT READS IS OF BULK AT MOST 1048576: true; the input reads as it did. -/
def votersNilUptoRow : OpenClaim := { program := "ythoagpagnldmeaa", sum := "d5ae7d49df708bbff782028e1b85cfcd00b23da6af315656ea4edd859d036e69", func := "psephos/psephoslaw09.VotersNil", spec := "votersNil", unfollowed := true, recurses := true, apart := false, narrowed := true }
def VotersNilUptoSaid : Prop := votersNilUptoRow.holds Try.pinned (OpenSpec.upto votersNilSpec)

end Rows
end Go.Proofs.Ythoagpagnldmeaa
