/- A chain of numbers: going through none. -/
import Derived.Test.YthoagpagnldmeaaCk
import Derived.Test.YthoagpagnldmeaaCj
import Derived.Test.YthoagpagnldmeaaK3
import Derived.RangeFuncNested
import Derived.RangeFuncBound
import Derived.RangeFuncCalls
import Derived.RangeFuncLeaves
import Derived.Shelf.Abstract
import Derived.Shelf.RegionOpen
import Derived.WalkKit
import Derived.OwnWalkIn
import Derived.TacticsInMore
import Derived.LoopNIn
import Derived.LoopIn
set_option linter.unusedVariables false
set_option linter.unusedSimpArgs false
namespace Go.Proofs.Ythoagpagnldmeaa
open Go.RowKit Go.Ps
attribute [local go_sem] Oper.semAt_some
set_option maxRecDepth 20000 in
set_option maxHeartbeats 2000000 in
theorem all_stops_nil (n : Nat) (Kp : World → World → Prop) (cb : Nat) (w : World) (hcb : w.heap[cb]? = some (.cells #[.pointer none] 23 (0, 0))) :
    SeqStopsK Fence.wide n Try.prog 85 #[.pointer (some ⟨cb, 0, none⟩)] encs Kp (fun xs => xs = []) (fun pre => pre <+: []) 0 w := fun l J Jx W hW hJ hJx hY h0 => by
  have hcbW : W.heap[cb]? = some (.cells #[.pointer none] 23 (0, 0)) := (hW.block cb (heap_lt hcb)).trans hcb
  have hc0 := cell_of hcbW 0 rfl
  have HJ := Lib.hid h0
  refine callsIn_of_wp Try.func85 rfl trivial ?_ rfl
  simp only [Try.ntmps85, List.size_toArray, List.length_cons, List.length_nil, Nat.reduceAdd, Nat.reduceSub, Array.replicate_succ, Array.replicate_zero, List.push_toArray, List.append_toArray, List.nil_append, List.cons_append]
  clear hcb hW hJ hJx hY h0
  gi_wp2_with fail
  refine ⟨trivial, (fun h => by cases h), (callsIn_wide.2 (handles_nil W)).mono ?_⟩
  rintro e W1 ⟨rfl, rfl⟩
  gi_wp2
  gi_loopw [10] (fun i wr => i = .int .i64 (0) ∧ J [] wr) (fun _ _ => 0)
  case atStart => exact ⟨rfl, HJ.out⟩
  case round =>
    obtain ⟨rfl, hj⟩ := hrel
    have HJ1 := Lib.hid hj
    clear hj
    gi_wp2
    go_end0
    first | exact ⟨⟨_, rfl⟩, .inl ⟨[], rfl, HJ1.out⟩⟩ | exact ⟨⟨_, rfl⟩, .inl HJ1.out⟩
set_option maxRecDepth 20000 in
set_option maxHeartbeats 2000000 in
theorem back_stops_nil (n : Nat) (Kp : World → World → Prop) (cb : Nat) (w : World) (hcb : w.heap[cb]? = some (.cells #[.pointer none] 23 (0, 0))) :
    SeqStopsK Fence.wide n Try.prog 87 #[.pointer (some ⟨cb, 0, none⟩)] encs Kp (fun xs => xs = []) (fun pre => pre <+: []) 0 w := fun l J Jx W hW hJ hJx hY h0 => by
  have hcbW : W.heap[cb]? = some (.cells #[.pointer none] 23 (0, 0)) := (hW.block cb (heap_lt hcb)).trans hcb
  have hc0 := cell_of hcbW 0 rfl
  have HJ := Lib.hid h0
  refine callsIn_of_wp Try.func87 rfl trivial ?_ rfl
  simp only [Try.ntmps87, List.size_toArray, List.length_cons, List.length_nil, Nat.reduceAdd, Nat.reduceSub, Array.replicate_succ, Array.replicate_zero, List.push_toArray, List.append_toArray, List.nil_append, List.cons_append]
  clear hcb hW hJ hJx hY h0
  gi_wp2_with fail
  refine ⟨trivial, (fun h => by cases h), (callsIn_wide.2 (handles_nil W)).mono ?_⟩
  rintro e W1 ⟨rfl, rfl⟩
  gi_wp2
  gi_loopw [4] (fun i wr => i = .int .i64 (-1) ∧ J [] wr) (fun _ _ => 0)
  case atStart => exact ⟨rfl, HJ.out⟩
  case round =>
    obtain ⟨rfl, hj⟩ := hrel
    have HJ1 := Lib.hid hj
    clear hj
    gi_wp2
    go_end0
    first | exact ⟨⟨_, rfl⟩, .inl ⟨[], rfl, HJ1.out⟩⟩ | exact ⟨⟨_, rfl⟩, .inl HJ1.out⟩
end Go.Proofs.Ythoagpagnldmeaa
