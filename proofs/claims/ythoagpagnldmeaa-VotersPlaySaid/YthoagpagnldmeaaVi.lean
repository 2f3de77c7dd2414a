/- Nil voters: going through them. -/
import Derived.Test.YthoagpagnldmeaaVp
import Derived.Test.YthoagpagnldmeaaCj
import Derived.Test.YthoagpagnldmeaaK3
import Derived.RangeFuncNested
import Derived.RangeFuncBound
import Derived.RangeFuncCalls
import Derived.RangeFuncLeaves
import Derived.Shelf.Abstract
import Derived.Shelf.RegionOpen
import Derived.WalkKit
import Derived.OwnWalkIn
import Derived.TacticsInMore
import Derived.LoopNIn
import Derived.LoopIn
set_option linter.unusedVariables false
set_option linter.unusedSimpArgs false
namespace Go.Proofs.Ythoagpagnldmeaa.V
open Go.RowKit Go.Ps
attribute [local go_sem] Oper.semAt_some
theorem all79 (p : Option Addr) (w : World) : Calls Try.prog 79 #[.pointer p] w fun e w' => e = .returned (.func (.func 89) #[] #[.pointer (some ⟨w.heap.size, 0, none⟩)]) ∧ w' = w.alloc (.cells #[.pointer p] 64) := by
  go_enter Try.func79, Try.ntmps79
  go_wp2
  go_ret
  exact ⟨rfl, rfl⟩
theorem bags80 (p : Option Addr) (w : World) : Calls Try.prog 80 #[.pointer p] w fun e w' => e = .returned (.func (.func 90) #[] #[.pointer (some ⟨w.heap.size, 0, none⟩)]) ∧ w' = w.alloc (.cells #[.pointer p] 64) := by
  go_enter Try.func80, Try.ntmps80
  go_wp2
  go_ret
  exact ⟨rfl, rfl⟩
def encB (x : Int × Value) : Array Value := #[.int .i64 x.1, x.2]
def encA (x : Int × Int) : Array Value := #[.int .i64 x.1, .int .u64 x.2]
set_option maxRecDepth 20000 in
set_option maxHeartbeats 2000000 in
theorem bags_stops_nil (n : Nat) (Kp : World → World → Prop) (cb : Nat) (w : World) (hcb : w.heap[cb]? = some (.cells #[.pointer none] 64 (0, 0))) :
    SeqStopsK Fence.wide n Try.prog 90 #[.pointer (some ⟨cb, 0, none⟩)] encB Kp (fun xs => xs = []) (fun pre => pre <+: []) 0 w := fun l J Jx W hW hJ hJx hY h0 => by
  have hcbW : W.heap[cb]? = some (.cells #[.pointer none] 64 (0, 0)) := (hW.block cb (heap_lt hcb)).trans hcb
  have hc0 := cell_of hcbW 0 rfl
  have HJ := Lib.hid h0
  refine callsIn_of_wp Try.func90 rfl trivial ?_ rfl
  simp only [Try.ntmps90, List.size_toArray, List.length_cons, List.length_nil, Nat.reduceAdd, Nat.reduceSub, Array.replicate_succ, Array.replicate_zero, List.push_toArray, List.append_toArray, List.nil_append, List.cons_append]
  clear hcb hW hJ hJx hY h0 hcbW
  gi_wp2
  first
    | (refine bodyPost_ret (results_none rfl _ _ _) rfl ?_; first | exact ⟨⟨_, rfl⟩, .inl ⟨[], rfl, HJ.out⟩⟩ | exact ⟨⟨_, rfl⟩, .inl HJ.out⟩)
    | (go_end0; first | exact ⟨⟨_, rfl⟩, .inl ⟨[], rfl, HJ.out⟩⟩ | exact ⟨⟨_, rfl⟩, .inl HJ.out⟩)
theorem chg_from {β : Type} {B : Nat} {w0 : World} (hB : w0.heap.size ≤ B) : OwnFrom B (fun (_ : β) W => Chg (fun _ => False) w0 W) := by
  intro s W W' row h hg hr
  exact h.grown hg (fun k hk hlt => by have := (hr k hk).1; omega)
set_option maxRecDepth 20000 in
set_option maxHeartbeats 2000000 in
theorem all_stops_nil (n : Nat) (hn : 2 ≤ n) (Kp : World → World → Prop) (cb : Nat) (w : World) (hcb : w.heap[cb]? = some (.cells #[.pointer none] 64 (0, 0))) :
    SeqStopsK Fence.wide n Try.prog 89 #[.pointer (some ⟨cb, 0, none⟩)] encA Kp (fun xs => xs = []) (fun pre => pre <+: []) 0 w := fun l J Jx W hW hJ hJx hY h0 => by
  have hcbW : W.heap[cb]? = some (.cells #[.pointer none] 64 (0, 0)) := (hW.block cb (heap_lt hcb)).trans hcb
  obtain ⟨n0, hn0⟩ : ∃ n0, n0 = W.heap.size := ⟨_, rfl⟩
  obtain ⟨W1, hW1⟩ : ∃ W1, W1 = W.alloc (.cells #[.func (.yield l) #[] #[]] 135) := ⟨_, rfl⟩
  obtain ⟨W2, hW2⟩ : ∃ W2, W2 = W1.alloc (.cells #[.pointer none] 64) := ⟨_, rfl⟩
  have hs1 : W1.heap.size = n0 + 1 := by rw [hW1, hn0]; simp
  have hB1 : W2.heap[n0 + 1]? = some (.cells #[.pointer none] 64 (0, 0)) := by rw [hW2, ← hs1]; exact heap_alloc_at _ _
  have hC1 : Chg (fun _ => False) W W1 := by rw [hW1]; exact (Chg.refl _ W).alloc _
  have hC2 : Chg (fun _ => False) W W2 := by rw [hW2]; exact hC1.alloc _
  have hc1 : (W.alloc (.cells #[.func (.yield l) #[] #[]] 135)).cell? ⟨cb, 0, none⟩ = some (.pointer none) := cell_of (heap_alloc_ne hcbW) 0 rfl
  have hst := bags_stops_nil (n - 1) (fun _ _ => True) (n0 + 1) W2 hB1
  have HH := Lib.hid (⟨h0, hJ, hC2, hn0⟩ : _ ∧ _ ∧ _ ∧ _)
  have HST := Lib.hid hst
  have HW1 := Lib.hid hW1
  have HW2 := Lib.hid hW2
  have HS1 := Lib.hid hs1
  refine callsIn_of_wp_marks Try.func89 rfl trivial ?_ rfl
  simp only [Try.ntmps89, List.size_toArray, List.length_cons, List.length_nil, Nat.reduceAdd, Nat.reduceSub, Array.replicate_succ, Array.replicate_zero, List.push_toArray, List.append_toArray, List.nil_append, List.cons_append]
  clear hcb hW hJ hJx hY h0 hcbW hn0 hW1 hW2 hs1 hB1 hC1 hC2 hst
  gi_wp2_with fail
  refine ⟨trivial, (fun h => by cases h), (callsIn_wide.2 (bags80 _ _)).mono ?_⟩
  rintro e w' ⟨rfl, rfl⟩
  clear hc1
  gi_wp2_with fail
  rw [← HW1.out, ← HW2.out, ← HH.out.2.2.2]
  refine wpIn_rangeFunc_ownF rfl (by omega) (gf := 90) (lb := #[.pointer (some ⟨n0 + 1, 0, none⟩)]) rfl trivial (enters_of Try.func90 (by kernel_rfl) rfl)
    HST.out (fun _ _ => trivial) (fun _ _ _ _ _ _ _ _ => trivial) (Below.refl _ _) (fun _ => rfl)
    (fun _ Wx => Chg (fun _ => False) W Wx) (fun _ _ _ => False) (chg_from (by have := HH.out.2.2.1.size; omega)) (fun _ _ _ _ _ hs _ _ => hs) HH.out.2.2.1 ?a1 ?assign ?body ?done ?stop
  case assign =>
    intro l x W K hK
    simp only [encB]
    gi_wp2
    exact hK
  case body =>
    rintro l pre x W hc hlt
    exact absurd hlt (Nat.not_lt_zero _)
  case done =>
    rintro D ys Wx hD rfl hC hK
    have hg := grownBy_putObj' Wx D (.deferred none)
    have hC2 : Chg (fun _ => False) W (Wx.putObj D (.deferred none)) := hC.grown hg (fun k hk hlt => by cases hk; have := HH.out.2.2.1.size; omega)
    have HJ := Lib.hid (HH.out.2.1 [] W _ none HH.out.1 (grownBy_of_chg hC2) (fun r e => by cases e))
    clear hC hg hC2
    gi_wp2
    refine ⟨by simp, .inl ⟨_, _, rfl, run_takeDeferred hK, ?_⟩⟩
    first
      | exact ⟨_, results_none rfl _ _ _, ⟨_, rfl⟩, .inl ⟨[], rfl, HJ.out⟩⟩
      | exact ⟨_, results_none rfl _ _ _, ⟨_, rfl⟩, .inl HJ.out⟩
  case stop =>
    rintro D c pre W _ _ h _
    exact h.elim
end Go.Proofs.Ythoagpagnldmeaa.V
