/- The law VotersNil: its walk. -/
import Derived.Test.YthoagpagnldmeaaVi
import Derived.Test.YthoagpagnldmeaaK3
import Derived.RangeFuncNested
import Derived.RangeFuncBound
import Derived.RangeFuncCalls
import Derived.RangeFuncLeaves
import Derived.Shelf.Abstract
import Derived.Shelf.RegionOpen
import Derived.WalkKit
import Derived.OwnWalkIn
import Derived.TacticsInMore
import Derived.LoopNIn
import Derived.LoopIn
set_option linter.unusedVariables false
set_option linter.unusedSimpArgs false
namespace Go.Proofs.Ythoagpagnldmeaa.V
open Go.RowKit Go.Ps
attribute [local go_sem] Oper.semAt_some
set_option maxRecDepth 100000 in
set_option maxHeartbeats 4000000 in
theorem all_nil  (w : World) : Calls Try.prog 55 #[.pointer none] w fun e w' => e = .returned (.slice none 0 0) ∧ Chg (fun _ => False) w w' := by
  obtain ⟨n0, hn0⟩ : ∃ n0, n0 = w.heap.size := ⟨_, rfl⟩
  obtain ⟨W1, hW1⟩ : ∃ W1, W1 = (w.alloc (.cells #[.slice none 0 0] 70)) := ⟨_, rfl⟩
  obtain ⟨W2, hW2⟩ : ∃ W2, W2 = W1.alloc (.cells #[.pointer none] 64) := ⟨_, rfl⟩
  have hs1 : W1.heap.size = n0 + 1 := by rw [hW1, hn0]; simp
  have hB1 : W2.heap[n0 + 1]? = some (.cells #[.pointer none] 64 (0, 0)) := by rw [hW2, ← hs1]; exact heap_alloc_at _ _
  have hsb : (w).heap.size = n0 := by simp [hn0]
  have hB0 : W2.heap[n0]? = some (.cells #[.slice none 0 0] 70 (0, 0)) := by rw [hW2, hW1, ← hsb]; exact heap_alloc_ne (heap_alloc_at _ _)
  have hC1 : Chg (fun _ => False) w W1 := by rw [hW1]; exact (Chg.refl _ w).alloc _
  have hC2 : Chg (fun _ => False) w W2 := by rw [hW2]; exact hC1.alloc _
  have hst := all_stops_nil (9 - 1) (by omega) (fun _ _ => True) (n0 + 1) W2 hB1
  have HH := Lib.hid (⟨hB0, hC2, hn0⟩ : _ ∧ _ ∧ _)
  have HST := Lib.hid hst
  have HW1 := Lib.hid hW1
  have HW2 := Lib.hid hW2
  clear hn0 hW1 hW2 hs1 hB1 hB0 hC1 hC2 hst hsb
  refine (callsIn_wide (n := 9)).1 ?_
  refine callsIn_of_wp_marks Try.func55 rfl trivial ?_ rfl
  simp only [Try.ntmps55, List.size_toArray, List.length_cons, List.length_nil, Nat.reduceAdd, Nat.reduceSub, Array.replicate_succ, Array.replicate_zero, List.push_toArray, List.append_toArray, List.nil_append, List.cons_append]
  gi_wp2_with fail
  refine ⟨trivial, (callsIn_wide.2 (all79 _ _)).mono ?_⟩
  rintro e w' ⟨rfl, rfl⟩
  gi_wp2_with fail
  rw [← HW1.out, ← HW2.out, ← HH.out.2.2]
  refine wpIn_rangeFunc_ownF rfl (by omega) (gf := 89) (lb := #[.pointer (some ⟨n0 + 1, 0, none⟩)]) rfl trivial (enters_of Try.func89 (by kernel_rfl) rfl)
    HST.out (fun _ _ => trivial) (fun _ _ _ _ _ _ _ _ => trivial) (Below.refl _ _) (fun _ => rfl)
    (fun _ Wx => Wx.heap[n0]? = some (.cells #[.slice none 0 0] 70 (0, 0)) ∧ Chg (fun _ => False) w Wx) (fun _ _ _ => False) (OwnFrom.and (fun s A B row h hg hr => kept_cells hg (fun r e => (hr r e).2) h) (chg_from HH.out.2.1.size)) (fun _ _ _ _ _ hs _ _ => hs) ⟨HH.out.1, HH.out.2.1⟩ ?a1 ?assign ?body ?done ?stop
  case assign =>
    intro l x W K hK
    simp only [encA]
    gi_wp2
    exact hK
  case body =>
    rintro l pre x W hc hlt
    exact absurd hlt (Nat.not_lt_zero _)
  case done =>
    rintro D ys Wx hD rfl ⟨hb, hC⟩ hK
    have hg := grownBy_putObj' Wx D (.deferred none)
    have hC2 : Chg (fun _ => False) w (Wx.putObj D (.deferred none)) := hC.grown hg (fun k hk hlt => by cases hk; have := HH.out.2.1.size; omega)
    have r0 : Wx.cell? ⟨n0, 0, none⟩ = some (.slice none 0 0) := cell_of hb 0 rfl
    have HF := Lib.hid hC2
    clear hb hC hg hC2
    gi_wp2
    refine ⟨by simp, .inl ⟨_, _, rfl, run_takeDeferred hK, ?_⟩⟩
    exact ⟨_, results_tmp rfl _ _ _, rfl, HF.out⟩
  case stop =>
    rintro D c pre W _ _ h _
    exact h.elim
set_option maxRecDepth 100000 in
set_option maxHeartbeats 4000000 in
theorem rows_nil  (w : World) : Calls Try.prog 37 #[.pointer none] w fun e w' => e = .returned (.slice none 0 0) ∧ Chg (fun _ => False) w w' := by
  obtain ⟨n0, hn0⟩ : ∃ n0, n0 = w.heap.size := ⟨_, rfl⟩
  obtain ⟨W1, hW1⟩ : ∃ W1, W1 = (w.alloc (.cells #[.slice none 0 0] 70)) := ⟨_, rfl⟩
  obtain ⟨W2, hW2⟩ : ∃ W2, W2 = W1.alloc (.cells #[.pointer none] 64) := ⟨_, rfl⟩
  have hs1 : W1.heap.size = n0 + 1 := by rw [hW1, hn0]; simp
  have hB1 : W2.heap[n0 + 1]? = some (.cells #[.pointer none] 64 (0, 0)) := by rw [hW2, ← hs1]; exact heap_alloc_at _ _
  have hsb : (w).heap.size = n0 := by simp [hn0]
  have hB0 : W2.heap[n0]? = some (.cells #[.slice none 0 0] 70 (0, 0)) := by rw [hW2, hW1, ← hsb]; exact heap_alloc_ne (heap_alloc_at _ _)
  have hC1 : Chg (fun _ => False) w W1 := by rw [hW1]; exact (Chg.refl _ w).alloc _
  have hC2 : Chg (fun _ => False) w W2 := by rw [hW2]; exact hC1.alloc _
  have hst := bags_stops_nil (9 - 1) (fun _ _ => True) (n0 + 1) W2 hB1
  have HH := Lib.hid (⟨hB0, hC2, hn0⟩ : _ ∧ _ ∧ _)
  have HST := Lib.hid hst
  have HW1 := Lib.hid hW1
  have HW2 := Lib.hid hW2
  clear hn0 hW1 hW2 hs1 hB1 hB0 hC1 hC2 hst hsb
  refine (callsIn_wide (n := 9)).1 ?_
  refine callsIn_of_wp_marks Try.func37 rfl trivial ?_ rfl
  simp only [Try.ntmps37, List.size_toArray, List.length_cons, List.length_nil, Nat.reduceAdd, Nat.reduceSub, Array.replicate_succ, Array.replicate_zero, List.push_toArray, List.append_toArray, List.nil_append, List.cons_append]
  gi_wp2_with fail
  refine ⟨trivial, (callsIn_wide.2 (bags80 _ _)).mono ?_⟩
  rintro e w' ⟨rfl, rfl⟩
  gi_wp2_with fail
  rw [← HW1.out, ← HW2.out, ← HH.out.2.2]
  refine wpIn_rangeFunc_ownF rfl (by omega) (gf := 90) (lb := #[.pointer (some ⟨n0 + 1, 0, none⟩)]) rfl trivial (enters_of Try.func90 (by kernel_rfl) rfl)
    HST.out (fun _ _ => trivial) (fun _ _ _ _ _ _ _ _ => trivial) (Below.refl _ _) (fun _ => rfl)
    (fun _ Wx => Wx.heap[n0]? = some (.cells #[.slice none 0 0] 70 (0, 0)) ∧ Chg (fun _ => False) w Wx) (fun _ _ _ => False) (OwnFrom.and (fun s A B row h hg hr => kept_cells hg (fun r e => (hr r e).2) h) (chg_from HH.out.2.1.size)) (fun _ _ _ _ _ hs _ _ => hs) ⟨HH.out.1, HH.out.2.1⟩ ?a1 ?assign ?body ?done ?stop
  case assign =>
    intro l x W K hK
    simp only [encB]
    gi_wp2
    exact hK
  case body =>
    rintro l pre x W hc hlt
    exact absurd hlt (Nat.not_lt_zero _)
  case done =>
    rintro D ys Wx hD rfl ⟨hb, hC⟩ hK
    have hg := grownBy_putObj' Wx D (.deferred none)
    have hC2 : Chg (fun _ => False) w (Wx.putObj D (.deferred none)) := hC.grown hg (fun k hk hlt => by cases hk; have := HH.out.2.1.size; omega)
    have r0 : Wx.cell? ⟨n0, 0, none⟩ = some (.slice none 0 0) := cell_of hb 0 rfl
    have HF := Lib.hid hC2
    clear hb hC hg hC2
    gi_wp2
    refine ⟨by simp, .inl ⟨_, _, rfl, run_takeDeferred hK, ?_⟩⟩
    exact ⟨_, results_tmp rfl _ _ _, rfl, HF.out⟩
  case stop =>
    rintro D c pre W _ _ h _
    exact h.elim
set_option maxRecDepth 100000 in
set_option maxHeartbeats 4000000 in
theorem take_nil (k : Int) (w : World) : Calls Try.prog 51 #[.pointer none, .int .i64 k] w fun e w' => e = .returned (.slice none 0 0) ∧ Chg (fun _ => False) w w' := by
  obtain ⟨n0, hn0⟩ : ∃ n0, n0 = w.heap.size := ⟨_, rfl⟩
  obtain ⟨W1, hW1⟩ : ∃ W1, W1 = ((w.alloc (.cells #[.int .i64 k] 3)).alloc (.cells #[.slice none 0 0] 82)) := ⟨_, rfl⟩
  obtain ⟨W2, hW2⟩ : ∃ W2, W2 = W1.alloc (.cells #[.pointer none] 64) := ⟨_, rfl⟩
  have hs1 : W1.heap.size = n0 + 2 := by rw [hW1, hn0]; simp
  have hB1 : W2.heap[n0 + 2]? = some (.cells #[.pointer none] 64 (0, 0)) := by rw [hW2, ← hs1]; exact heap_alloc_at _ _
  have hsb : ((w.alloc (.cells #[.int .i64 k] 3))).heap.size = n0 + 1 := by simp [hn0]
  have hB0 : W2.heap[n0 + 1]? = some (.cells #[.slice none 0 0] 82 (0, 0)) := by rw [hW2, hW1, ← hsb]; exact heap_alloc_ne (heap_alloc_at _ _)
  have hC1 : Chg (fun _ => False) w W1 := by rw [hW1]; exact ((Chg.refl _ w).alloc _).alloc _
  have hC2 : Chg (fun _ => False) w W2 := by rw [hW2]; exact hC1.alloc _
  have hst := all_stops_nil (9 - 1) (by omega) (fun _ _ => True) (n0 + 2) W2 hB1
  have HH := Lib.hid (⟨hB0, hC2, hn0⟩ : _ ∧ _ ∧ _)
  have HST := Lib.hid hst
  have HW1 := Lib.hid hW1
  have HW2 := Lib.hid hW2
  clear hn0 hW1 hW2 hs1 hB1 hB0 hC1 hC2 hst hsb
  refine (callsIn_wide (n := 9)).1 ?_
  refine callsIn_of_wp_marks Try.func51 rfl trivial ?_ rfl
  simp only [Try.ntmps51, List.size_toArray, List.length_cons, List.length_nil, Nat.reduceAdd, Nat.reduceSub, Array.replicate_succ, Array.replicate_zero, List.push_toArray, List.append_toArray, List.nil_append, List.cons_append]
  gi_wp2_with fail
  refine ⟨trivial, (callsIn_wide.2 (all79 _ _)).mono ?_⟩
  rintro e w' ⟨rfl, rfl⟩
  gi_wp2_with fail
  rw [← HW1.out, ← HW2.out, ← HH.out.2.2]
  refine wpIn_rangeFunc_ownF rfl (by omega) (gf := 89) (lb := #[.pointer (some ⟨n0 + 2, 0, none⟩)]) rfl trivial (enters_of Try.func89 (by kernel_rfl) rfl)
    HST.out (fun _ _ => trivial) (fun _ _ _ _ _ _ _ _ => trivial) (Below.refl _ _) (fun _ => rfl)
    (fun _ Wx => Wx.heap[n0 + 1]? = some (.cells #[.slice none 0 0] 82 (0, 0)) ∧ Chg (fun _ => False) w Wx) (fun _ _ _ => False) (OwnFrom.and (fun s A B row h hg hr => kept_cells hg (fun r e => (hr r e).2) h) (chg_from HH.out.2.1.size)) (fun _ _ _ _ _ hs _ _ => hs) ⟨HH.out.1, HH.out.2.1⟩ ?a1 ?assign ?body ?done ?stop
  case assign =>
    intro l x W K hK
    simp only [encA]
    gi_wp2
    exact hK
  case body =>
    rintro l pre x W hc hlt
    exact absurd hlt (Nat.not_lt_zero _)
  case done =>
    rintro D ys Wx hD rfl ⟨hb, hC⟩ hK
    have hg := grownBy_putObj' Wx D (.deferred none)
    have hC2 : Chg (fun _ => False) w (Wx.putObj D (.deferred none)) := hC.grown hg (fun k hk hlt => by cases hk; have := HH.out.2.1.size; omega)
    have r0 : Wx.cell? ⟨n0 + 1, 0, none⟩ = some (.slice none 0 0) := cell_of hb 0 rfl
    have HF := Lib.hid hC2
    clear hb hC hg hC2
    gi_wp2
    refine ⟨by simp, .inl ⟨_, _, rfl, run_takeDeferred hK, ?_⟩⟩
    exact ⟨_, results_tmp rfl _ _ _, rfl, HF.out⟩
  case stop =>
    rintro D c pre W _ _ h _
    exact h.elim
structure Pl where
  kind : Int
  a : Int
  b : Int
  n : Int
def Pl.w (o : Pl) : Value := .agg #[.int .i64 o.kind, .int .i64 o.a, .int .i64 o.b, .int .u64 o.n]
section
open Go.Joins Go.WideShapes
variable {H : Type} {enc : TypeId × Value → H} {W : World} {base : Nat} {spare : Nat → Bool} {held : Bool}
set_option maxRecDepth 20000 in
theorem open_op {r : Reach} {b0 : Nat} {v : Value} {d : DataW H} {p : List MemPlace} (hv : Value.okWide Try.prog W r b0 79 v) (h : DataW.Trod enc Try.prog W base spare held 79 v d p) : ∃ z : Pl, v = z.w ∧ True := by
  obtain ⟨v0, v1, v2, v3, y0, y1, y2, y3, n, rfl, _, _, h0, h1, h2, h3⟩ := open_agg4 Try.underlying79 (by kernel_rfl) (by kernel_rfl) hv h
  obtain ⟨a0, e0, _, w0⟩ := DataW.trod_int Try.underlying3 h0
  obtain ⟨a1, e1, _, w1⟩ := DataW.trod_int Try.underlying3 h1
  obtain ⟨a2, e2, _, w2⟩ := DataW.trod_int Try.underlying3 h2
  obtain ⟨a3, e3, _, w3⟩ := DataW.trod_int Try.underlying68 h3
  simp only [List.cons.injEq, and_true] at e0 e1 e2 e3
  subst e0 e1 e2 e3
  exact ⟨⟨a0, a1, a2, a3⟩, rfl, trivial⟩
end
set_option maxRecDepth 100000 in
set_option maxHeartbeats 4000000 in
theorem votersNil_walk (z : Pl) (w : World) (hz : True) : Calls Try.prog 10 #[z.w] w fun e w' => e = .returned (.bool true) ∧ Below w.heap.size w w' := by
  obtain ⟨k, a, b, n⟩ := z
  unfold Pl.w
  go_enter Try.func10, Try.ntmps10
  go_wp2_with fail
  refine (awake_any _).mono ?_
  rintro e w1 ⟨rfl, hC⟩
  have c := chg_heap0 hC (heap_alloc_at w _)
  have HC := Lib.hid (((Chg.refl (fun _ => False) w).alloc _).trans hC (fun _ _ => id))
  obtain ⟨g, hg⟩ : ∃ g, g = w.heap.size := ⟨_, rfl⟩
  rw [← hg] at c ⊢
  obtain ⟨x0, x1, x2, x3⟩ := read4 c
  clear hC hg
  go_wp2_with fail
  refine (bag_nil _ _).mono ?_
  rintro e w' ⟨rfl, rfl⟩
  go_wp2_with fail
  refine (stake_nil _ _).mono ?_
  rintro e w' ⟨rfl, rfl⟩
  go_wp2_with fail
  refine (insert_nil _ _ _).mono ?_
  rintro e w' ⟨rfl, rfl⟩
  go_wp2_with fail
  refine (remove_nil _ _).mono ?_
  rintro e w' ⟨rfl, rfl⟩
  go_wp2_with fail
  refine (update_nil _ _ _).mono ?_
  rintro e w' ⟨rfl, rfl⟩
  go_wp2_with fail
  refine (rebag_nil _ _).mono ?_
  rintro e w' ⟨rfl, rfl⟩
  go_wp2_with fail
  refine (front_nil _ _ _).mono ?_
  rintro e w' ⟨rfl, rfl⟩
  go_wp2_with fail
  refine (len_nil  _).mono ?_
  rintro e w' ⟨rfl, rfl⟩
  go_wp2_with fail
  refine (all_nil _).mono ?_
  rintro e w2 ⟨rfl, hC⟩
  have HC2 := Lib.hid (HC.out.trans hC (fun _ _ => id))
  have c2 := chg_heap0 hC c
  clear hC c HC x0 x1 x2 x3
  go_wp2_with fail
  refine (rows_nil _).mono ?_
  rintro e w3 ⟨rfl, hC⟩
  have HC3 := Lib.hid (HC2.out.trans hC (fun _ _ => id))
  have c3 := chg_heap0 hC c2
  obtain ⟨x0, x1, x2, x3⟩ := read4 c3
  clear hC c2 HC2
  go_wp2_with fail
  refine (take_nil _ _).mono ?_
  rintro e w4 ⟨rfl, hC⟩
  have HC4 := Lib.hid (HC3.out.trans hC (fun _ _ => id))
  clear hC c3 HC3 x0 x1 x2 x3
  go_wp2
  go_ret
  exact ⟨rfl, HC4.out.below (fun k hk => ⟨hk, id⟩)⟩
end Go.Proofs.Ythoagpagnldmeaa.V
namespace Go.Proofs.Ythoagpagnldmeaa
open Go.RowKit Go.Ps
theorem votersNil_walk (z : V.Pl) (w : World) (hz : True) : Calls Try.prog 10 #[z.w] w fun e w' => e = .returned (.bool true) ∧ Below w.heap.size w w' := V.votersNil_walk z w hz
end Go.Proofs.Ythoagpagnldmeaa
