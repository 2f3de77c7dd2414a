/- Solutions: Ints, SameEdges, Same (of two alike), Small. -/
import Derived.Test.YtcdbchdlenkdgaaSg
set_option linter.unusedVariables false
set_option linter.unusedSimpArgs false
namespace Go.Proofs.Ytcdbchdlenkdgaa
open Go.RowKit Go.Ps

set_option maxHeartbeats 1000000 in
theorem ints_any (w : World) (A B : Option Addr) (c d : Nat) (l : List Int) (hA : ReadsI w .i64 A l) (hB : ReadsI w .i64 B l) (hl : l.length ≤ 1000000) : Calls Try.prog 51 #[.slice A l.length c, .slice B l.length d] w (BoolPost true w) := by
  have HA := Lib.hid hA
  have HB := Lib.hid hB
  clear hA hB
  go_enter Try.func51, Try.ntmps51
  go_wp2
  go_loopw [13] (fun i wr => ∃ k n : Nat, k ≤ l.length ∧ i = .int .i64 k ∧ wr = w.drewN n) (fun i _ => l.length - (intOf i).toNat)
  case atStart => exact ⟨0, 0, by omega, rfl, rfl⟩
  case round =>
    obtain ⟨k, n, hk, rfl, rfl⟩ := hrel
    by_cases hk2 : k < l.length
    · obtain ⟨g, o, rfl, hx⟩ := HA.out.plain (by rintro rfl; simp at hk2)
      obtain ⟨g2, o2, rfl, hx2⟩ := HB.out.plain (by rintro rfl; simp at hk2)
      have p1 := hx k hk2
      have p2 := hx2 k hk2
      obtain ⟨x, hxe⟩ : ∃ x, x = l.getD k 0 := ⟨_, rfl⟩
      rw [← hxe] at p1 p2
      clear hx hx2 hxe
      go_wp2
      go_quiet (fail)
      go_wp2
      go_roundw
      case rel => exact ⟨k + 1, _, by omega, by go_num, rfl⟩
      case measure => simp [intOf]; omega
    · have ej : k = l.length := by omega
      subst ej
      go_wp2
      go_ret
      exact ⟨rfl, (Chg.refl _ _).drewN _⟩
set_option maxHeartbeats 1000000 in
theorem sameEdges_any (w : World) (A B : Option Addr) (c d : Nat) (l : List (Int × Int × Int)) (hA : Reads3 w .i64 .i64 .u64 A l) (hB : Reads3 w .i64 .i64 .u64 B l) (hl : l.length ≤ 1000000) : Calls Try.prog 52 #[.slice A l.length c, .slice B l.length d] w (BoolPost true w) := by
  have HA := Lib.hid hA
  have HB := Lib.hid hB
  clear hA hB
  go_enter Try.func52, Try.ntmps52
  go_wp2
  go_loopw [13] (fun i wr => ∃ k n : Nat, k ≤ l.length ∧ i = .int .i64 k ∧ wr = w.drewN n) (fun i _ => l.length - (intOf i).toNat)
  case atStart => exact ⟨0, 0, by omega, rfl, rfl⟩
  case round =>
    obtain ⟨k, n, hk, rfl, rfl⟩ := hrel
    by_cases hk2 : k < l.length
    · obtain ⟨g, o, rfl, hx⟩ := HA.out.plain (by omega)
      obtain ⟨g2, o2, rfl, hx2⟩ := HB.out.plain (by omega)
      obtain ⟨p0, p1, p2⟩ := hx k hk2
      obtain ⟨q0, q1, q2⟩ := hx2 k hk2
      obtain ⟨⟨a, b, u⟩, hxe⟩ : ∃ x, x = l.getD k d3 := ⟨_, rfl⟩
      rw [← hxe] at p0 p1 p2 q0 q1 q2
      simp only at p0 p1 p2 q0 q1 q2
      clear hx hx2 hxe
      go_wp2
      go_quiet (fail)
      go_wp2
      go_roundw
      case rel => exact ⟨k + 1, _, by omega, by go_num, rfl⟩
      case measure => simp [intOf]; omega
    · have ej : k = l.length := by omega
      subst ej
      go_wp2
      go_ret
      exact ⟨rfl, (Chg.refl _ _).drewN _⟩
set_option maxHeartbeats 2000000 in
theorem same_sol_any (x : Sol) (A B A2 B2 : Option Addr) (c d c2 d2 : Nat) (w : World) (hA : ReadsI w .i64 A x.com) (hB : Reads3 w .i64 .i64 .u64 B x.edges) (hA2 : ReadsI w .i64 A2 x.com) (hB2 : Reads3 w .i64 .i64 .u64 B2 x.edges) (hl : x.com.length ≤ 1000000) (hl2 : x.edges.length ≤ 1000000) :
    Calls Try.prog 34 #[sv x A c B d, sv x A2 c2 B2 d2] w (BoolPost true w) := by
  obtain ⟨com, edges, mn, sm, hi, lo⟩ := x
  unfold sv BoolPost
  simp only at *
  obtain ⟨w2, hw2⟩ : ∃ w2, w2 = (w.alloc (.cells #[.slice A com.length c, .slice B edges.length d, .int .u64 mn, .int .u64 sm, .int .u64 hi, .int .u64 lo] 49)).alloc (.cells #[.slice A2 com.length c2, .slice B2 edges.length d2, .int .u64 mn, .int .u64 sm, .int .u64 hi, .int .u64 lo] 49) := ⟨_, rfl⟩
  have hC : Chg (fun _ => False) w w2 := by rw [hw2]; exact ((Chg.refl _ _).alloc _).alloc _
  have hg1 : w2.heap[w.heap.size]? = some (.cells #[.slice A com.length c, .slice B edges.length d, .int .u64 mn, .int .u64 sm, .int .u64 hi, .int .u64 lo] 49) := by rw [hw2]; exact heap_alloc_ne (heap_alloc_at _ _)
  have hg2 : w2.heap[w.heap.size + 1]? = some (.cells #[.slice A2 com.length c2, .slice B2 edges.length d2, .int .u64 mn, .int .u64 sm, .int .u64 hi, .int .u64 lo] 49) := by
    rw [hw2]
    refine heap_at _ _ _ (by simp)
  obtain ⟨g1, hg1e⟩ : ∃ g, g = w.heap.size := ⟨_, rfl⟩
  obtain ⟨g2, hg2e⟩ : ∃ g, g = w.heap.size + 1 := ⟨_, rfl⟩
  rw [← hg1e] at hg1
  rw [← hg2e] at hg2
  obtain ⟨c0, c1, c2', c3, c4, c5⟩ := read6 hg1
  obtain ⟨e0, e1, e2', e3, e4, e5⟩ := read6 hg2
  have hi1 := ints_any w2 A A2 c c2 com (hA.chg hC (fun _ _ => id)) (hA2.chg hC (fun _ _ => id)) hl
  have he1 : ∀ W, Chg (fun _ => False) w2 W → Calls Try.prog 52 #[.slice B edges.length d, .slice B2 edges.length d2] W (BoolPost true W) := fun W hW => sameEdges_any W B B2 d d2 edges (hB.chg (chg_trans hC hW) (fun _ _ => id)) (hB2.chg (chg_trans hC hW) (fun _ _ => id)) hl2
  have HI := Lib.hid hi1
  have HE := Lib.hid he1
  have HC := Lib.hid hC
  have HW := Lib.hid hw2
  have H1 := Lib.hid hg1e
  have H2 := Lib.hid hg2e
  have HG1 := Lib.hid hg1
  have HG2 := Lib.hid hg2
  clear hA hB hA2 hB2 hC hg1 hg2 hw2 hi1 he1 hg1e hg2e
  go_enter Try.func34, Try.ntmps34
  go_upto_region 1 with (fail)
  rw [← HW.out, ← H2.out, ← H1.out]
  clear H1 H2 HW
  go_wp2_with fail
  refine HI.out.mono ?_
  rintro e3 w3 ⟨rfl, hC3⟩
  have he3 := HE.out w3 hC3
  have hg1 := chg_heap hC3 HG1.out
  have hg2 := chg_heap hC3 HG2.out
  clear c0 c1 c2' c3 c4 c5 e0 e1 e2' e4 e5
  obtain ⟨c0, c1, c2', c3, c4, c5⟩ := read6 hg1
  obtain ⟨e0, e1, e2', e3, e4, e5⟩ := read6 hg2
  have HE3 := Lib.hid he3
  have HC3 := Lib.hid (chg_trans HC.out hC3)
  clear hg1 hg2 he3 hC3
  go_wp2_with fail
  refine HE3.out.mono ?_
  rintro e5 w5 ⟨rfl, hC5⟩
  have HC5 := Lib.hid (chg_trans HC3.out hC5)
  clear hC5
  go_wp2
  go_ret
  exact ⟨rfl, HC5.out⟩
theorem small_any (x : Sol) (A B : Option Addr) (c d : Nat) (w : World) : Calls Try.prog 28 #[sv x A c B d] w (BoolPost (decide (x.com.length ≤ 100 ∧ x.edges.length ≤ 600)) w) := by
  obtain ⟨com, edges, mn, sm, hi, lo⟩ := x
  unfold sv BoolPost
  simp only at *
  generalize com.length = n
  generalize edges.length = m
  by_cases h1 : n ≤ 100
  · by_cases h2 : m ≤ 600
    · rw [decide_eq_true (show n ≤ 100 ∧ m ≤ 600 from ⟨h1, h2⟩)]
      go_enter Try.func28, Try.ntmps28
      go_wp2
      go_ret
      exact ⟨by simp; omega, (Chg.refl _ _).alloc _⟩
    · rw [decide_eq_false (show ¬ (n ≤ 100 ∧ m ≤ 600) from fun h => h2 h.2)]
      have h3 : ¬ ((m : Int) ≤ 600) := by omega
      go_enter Try.func28, Try.ntmps28
      go_wp2
      go_ret
      exact ⟨by simp, (Chg.refl _ _).alloc _⟩
  · rw [decide_eq_false (show ¬ (n ≤ 100 ∧ m ≤ 600) from fun h => h1 h.1)]
    have h3 : ¬ ((n : Int) ≤ 100) := by omega
    go_enter Try.func28, Try.ntmps28
    go_wp2
    go_ret
    exact ⟨by simp, (Chg.refl _ _).alloc _⟩
end Go.Proofs.Ytcdbchdlenkdgaa
