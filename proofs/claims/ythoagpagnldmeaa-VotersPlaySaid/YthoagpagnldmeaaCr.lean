/- A chain of numbers: some of it. -/
import Derived.Test.YthoagpagnldmeaaCq
import Derived.Test.YthoagpagnldmeaaK3
import Derived.RangeFuncNested
import Derived.RangeFuncBound
import Derived.RangeFuncCalls
import Derived.RangeFuncLeaves
import Derived.Shelf.Abstract
import Derived.Shelf.RegionOpen
import Derived.WalkKit
import Derived.OwnWalkIn
import Derived.TacticsInMore
import Derived.LoopNIn
import Derived.LoopIn
set_option linter.unusedVariables false
set_option linter.unusedSimpArgs false
namespace Go.Proofs.Ythoagpagnldmeaa
open Go.RowKit Go.Ps
attribute [local go_sem] Oper.semAt_some
def SomeI (n0 : Nat) (w0 : World) (N : Int) (pre : List (Int × Int)) (W : World) : Prop :=
  W.heap[n0]? = some (.cells #[.int .i64 N] 3 (0, 0)) ∧ W.heap[n0 + 1]? = some (.cells #[.int .i64 0] 3 (0, 0)) ∧ W.heap[n0 + 2]? = some (.cells #[.int .i64 pre.length] 3 (0, 0)) ∧ Below w0.heap.size w0 W ∧ (pre.length : Int) ≤ N
def SomeX (n0 : Nat) (w0 : World) (N : Int) (c : Code) (pre : List (Int × Int)) (W : World) : Prop :=
  c = .ret ∧ W.heap[n0 + 1]? = some (.cells #[.int .i64 N] 3 (0, 0)) ∧ Below w0.heap.size w0 W ∧ (pre.length : Int) = N + 1
theorem SomeI.from {n0 Bl : Nat} {w0 : World} {N : Int} (h : w0.heap.size ≤ Bl) : OwnFrom Bl (SomeI n0 w0 N) := by
  rintro pre W W' row ⟨h1, h2, h3, h4, h5⟩ hg hr
  exact ⟨kept_cells hg (fun r e => (hr r e).2) h1, kept_cells hg (fun r e => (hr r e).2) h2, kept_cells hg (fun r e => (hr r e).2) h3, h4.grown hg h4.size (fun k e => Nat.le_trans h (hr k e).1), h5⟩
theorem SomeX.from {n0 Bl : Nat} {w0 : World} {N : Int} (h : w0.heap.size ≤ Bl) (c : Code) : OwnFrom Bl (SomeX n0 w0 N c) := by
  rintro pre W W' row ⟨h0, h2, h4, h5⟩ hg hr
  exact ⟨h0, kept_cells hg (fun r e => (hr r e).2) h2, h4.grown hg h4.size (fun k e => Nat.le_trans h (hr k e).1), h5⟩
theorem kept_set {n₀ B : Nat} {W : World} {v u : Value} {t : TypeId} (h : W.heap[B]? = some (.cells #[v] t (0, 0))) (hv : u.ownBlock = none) : Kept n₀ B W (W.setCell ⟨B, 0, none⟩ u) := by
  refine ⟨by simp [World.setCell], fun k o hko hno _ => ?_, fun k hko => ?_⟩
  · have hkB : k ≠ B := fun e => hno ⟨heap_lt hko, .inl e⟩
    rw [heap_setCell_ne hkB]
    exact hko
  · obtain ⟨h1, rfl | ⟨x, h2, h3⟩⟩ := hko
    · exact .inl ⟨heap_lt h, .inl rfl⟩
    · have h4 : (W.setCell ⟨B, 0, none⟩ u).heap[B]? = some (.cells #[u] t (0, 0)) := by rw [heap_setCell h]; rfl
      rw [cell_of h4 0 rfl] at h2
      cases h2
      have h5 : u.ownBlock = some k := h3
      rw [hv] at h5
      cases h5
theorem putObj_cells {W : World} {D k : Nat} {ds : Option (List Deferred)} (hK : W.heap[D]? = some (.deferred ds)) (o' : Obj) {cs : Array Value} {t : TypeId} {fr : Nat × Nat} (h : W.heap[k]? = some (.cells cs t fr)) : (W.putObj D o').heap[k]? = some (.cells cs t fr) :=
  kept_cells (grownBy_putObj' W D o') (fun r e => by cases e; exact ⟨_, hK, rfl⟩) h
set_option maxRecDepth 100000 in
set_option maxHeartbeats 4000000 in
theorem some_any {w : World} {g : Nat} {mp : Option Nat} {X : List Mem} {nn : Int} {L : List (Int × Int)} {N : Int} (hch : ChW 95 54 w g mp X nn) (hL : Nm X L) (hX : X.length ≤ 1000) (hN : 0 ≤ N) :
    Calls Try.prog 14 #[.pointer (some ⟨g, 0, none⟩), .int .i64 N] w fun e w' => e = .returned (.int .i64 (min N L.length)) ∧ Chg (fun _ => False) w w' := by
  have hLX := hL.length
  obtain ⟨n0, hn0⟩ : ∃ n0, n0 = w.heap.size := ⟨_, rfl⟩
  have e0 := heap_alloc_at w (.cells #[.int .i64 N] 3)
  have e1 := heap_alloc_at (w.alloc (.cells #[.int .i64 N] 3)) (.cells #[.int .i64 0] 3)
  have e2 := heap_alloc_at ((w.alloc (.cells #[.int .i64 N] 3)).alloc (.cells #[.int .i64 0] 3)) (.cells #[.int .i64 0] 3)
  simp only [World.size_alloc, ← hn0] at e0 e1 e2
  obtain ⟨W1, hW1⟩ : ∃ W1, W1 = ((w.alloc (.cells #[.int .i64 N] 3)).alloc (.cells #[.int .i64 0] 3)).alloc (.cells #[.int .i64 0] 3) := ⟨_, rfl⟩
  have a0 : W1.heap[n0]? = some (.cells #[.int .i64 N] 3 (0, 0)) := by rw [hW1]; exact heap_alloc_ne (heap_alloc_ne e0)
  have a1 : W1.heap[n0 + 1]? = some (.cells #[.int .i64 0] 3 (0, 0)) := by rw [hW1]; exact heap_alloc_ne e1
  have a2 : W1.heap[n0 + 2]? = some (.cells #[.int .i64 0] 3 (0, 0)) := by rw [hW1]; exact e2
  have hb1 : Below w.heap.size w W1 := by rw [hW1]; exact (((Below.refl _ w).alloc (Nat.le_refl _) _).alloc (by simp) _).alloc (by simp; omega) _
  have hs1 : W1.heap.size = n0 + 3 := by rw [hW1, hn0]; simp
  obtain ⟨W2, hW2⟩ : ∃ W2, W2 = W1.alloc (.cells #[.pointer (some ⟨g, 0, none⟩)] 23) := ⟨_, rfl⟩
  have c0 : W2.heap[n0]? = some (.cells #[.int .i64 N] 3 (0, 0)) := by rw [hW2]; exact heap_alloc_ne a0
  have c1 : W2.heap[n0 + 1]? = some (.cells #[.int .i64 0] 3 (0, 0)) := by rw [hW2]; exact heap_alloc_ne a1
  have c2 : W2.heap[n0 + 2]? = some (.cells #[.int .i64 0] 3 (0, 0)) := by rw [hW2]; exact heap_alloc_ne a2
  have c3 : W2.heap[n0 + 3]? = some (.cells #[.pointer (some ⟨g, 0, none⟩)] 23 (0, 0)) := by
    rw [hW2]
    have := heap_alloc_at W1 (.cells #[.pointer (some ⟨g, 0, none⟩)] 23)
    rwa [hs1] at this
  have hbl : Below w.heap.size w W2 := by rw [hW2]; exact hb1.alloc (by omega) _
  have hsz : W2.heap.size = n0 + 4 := by rw [hW2]; simp [hs1]
  have hown : ∀ k, (k = n0 + 3 ∨ Mine g mp X k) → ¬ OutOwn (n0 + 2) W2 k := by
    rintro k hk ⟨h1, rfl | ⟨v, h2, h3⟩⟩
    · rcases hk with hk | hk
      · omega
      · have := hch.lt hk; omega
    · rw [cell_of c2 0 rfl] at h2
      cases h2
      cases h3
  have hst := all_stops (9 - 1) n0 (n0 + 2) (n0 + 3) g mp X nn L W2 c3 (hch.same (fun k hk => hbl.block k (hch.lt hk))) (by omega) hL (fun k hk => by rw [hn0]; exact hch.lt hk) (by omega) (fun v k h2 h3 => by rw [cell_of c2 0 rfl] at h2; cases h2; cases h3) hown
  have hI : SomeI n0 w N [] W2 := ⟨c0, c1, c2, hbl, hN⟩
  have HH := Lib.hid (⟨hX, hLX, hsz, hI, hN⟩ : _ ∧ _ ∧ _ ∧ _ ∧ _)
  have HST := Lib.hid hst
  have HW1 := Lib.hid hW1
  have HW2 := Lib.hid hW2
  have HN0 := Lib.hid hn0
  have HA := Lib.hid a2
  clear hch hL hX hLX e0 e1 e2 a0 a1 a2 c0 c1 c2 c3 hb1 hs1 hbl hsz hown hst hI hn0 hW1 hW2 hN
  refine (callsIn_wide (n := 9)).1 ?_
  refine callsIn_of_wp_marks Try.func14 rfl trivial ?_ rfl
  simp only [Try.ntmps14, List.size_toArray, List.length_cons, List.length_nil, Nat.reduceAdd, Nat.reduceSub, Array.replicate_succ, Array.replicate_zero, List.push_toArray, List.append_toArray, List.nil_append, List.cons_append]
  gi_wp2_with fail
  refine ⟨trivial, (callsIn_wide.2 (all_any _ _)).mono ?_⟩
  rintro e w' ⟨rfl, rfl⟩
  gi_wp2_with fail
  rw [← HW1.out, ← HW2.out, ← HN0.out]
  obtain ⟨hX, hLX, hsz, hI, hN⟩ := HH.out
  have hn0 := HN0.out
  refine wpIn_rangeFunc_ownF rfl (by omega) (gf := 85) (lb := #[.pointer (some ⟨n0 + 3, 0, none⟩)]) rfl trivial (enters_of Try.func85 (by kernel_rfl) rfl)
    HST.out (fun h k => Kept.trans h k) (kept_b (by omega) (by omega)) (Below.refl _ _) (fun _ => rfl)
    (SomeI n0 w N) (SomeX n0 w N) (SomeI.from (by omega)) (SomeX.from (by omega)) hI
    (fun x => { tmps := #[.pointer (some ⟨g, 0, none⟩), .int .i64 N, undef, .pointer (some ⟨n0, 0, none⟩), .pointer (some ⟨n0 + 1, 0, none⟩), .pointer (some ⟨n0 + 2, 0, none⟩), .pointer (some ⟨g, 0, none⟩), .func (.func 85) #[] #[.pointer (some ⟨n0 + 3, 0, none⟩)], .int .i64 x.1, .int .i64 x.2, undef, undef, undef, undef, undef, undef, undef], defers := [] }) ?assign ?body ?done ?stop
  case assign =>
    clear hX hLX hsz hI hN hn0
    intro l x W K hK
    simp only [encs]
    gi_wp2
    simpa using hK
  case body =>
    rintro l pre x W ⟨h0, h1, h2, hb, hle⟩ hlt
    have r0 := cell_of h0 0 rfl
    have r1 := cell_of h1 0 rfl
    have r2 := cell_of h2 0 rfl
    have r3 := frz h1
    have r4 := frz h2
    have hw : wrap64 ((pre.length : Int) + 1) = ((pre ++ [x]).length : Int) := by unfold wrap64; simp; omega
    have HW := Lib.hid hw
    have q1 : KeepsOthers W (W.setCell ⟨n0 + 2, 0, none⟩ (.int .i64 ((pre ++ [x]).length : Int))) := KeepsOthers.setCell _ _ _
    have q2 : Kept n0 (n0 + 2) W (W.setCell ⟨n0 + 2, 0, none⟩ (.int .i64 ((pre ++ [x]).length : Int))) := kept_set h2 rfl
    have q3 : (pre.length : Int) ≠ N → SomeI n0 w N (pre ++ [x]) (W.setCell ⟨n0 + 2, 0, none⟩ (.int .i64 ((pre ++ [x]).length : Int))) := fun hne =>
      ⟨by rw [heap_setCell_ne (by omega)]; exact h0, by rw [heap_setCell_ne (by omega)]; exact h1, by rw [heap_setCell h2]; rfl, hb.setCell (p := ⟨n0 + 2, 0, none⟩) (by simp; omega) _, by simp; omega⟩
    have q4 : (pre.length : Int) = N → SomeX n0 w N .ret (pre ++ [x]) (W.setCell ⟨n0 + 1, 0, none⟩ (.int .i64 pre.length)) := fun he =>
      ⟨rfl, by rw [heap_setCell h1]; simp [he], hb.setCell (p := ⟨n0 + 1, 0, none⟩) (by simp; omega) _, by simp; omega⟩
    have HF := Lib.hid (⟨q1, q2, q3, q4⟩ : _ ∧ _ ∧ _ ∧ _)
    obtain ⟨m, hm⟩ : ∃ m, m = pre.length := ⟨_, rfl⟩
    rw [← hm] at r2 HW HF
    clear h0 h1 h2 hb hle hlt hX hLX hsz hI hN hn0 hw q1 q2 q3 q4 hm
    gi_wp2
    · rename_i hx
      exact ⟨KeepsOthers.setCell _ _ _, HF.out.2.2.2 (eq_of_beq hx)⟩
    · rename_i hx
      rw [HW.out]
      exact ⟨HF.out.1, HF.out.2.1, HF.out.2.2.1 (fun e => by simp [e] at hx)⟩
  case done =>
    rintro D ys W hD rfl ⟨h0, h1, h2, hb, hle⟩ hK
    have r1 := cell_of h1 0 rfl
    have r2 := cell_of h2 0 rfl
    have r3 := frz h1
    have hK2 : (W.setCell ⟨n0 + 1, 0, none⟩ (.int .i64 ys.length)).heap[D]? = some (.deferred (some [])) := (KeepsOthers.setCell W ⟨n0 + 1, 0, none⟩ (.int .i64 ys.length)).same D _ hK rfl
    have hc1 : (W.setCell ⟨n0 + 1, 0, none⟩ (.int .i64 ys.length)).heap[n0 + 1]? = some (.cells #[.int .i64 ys.length] 3 (0, 0)) := by rw [heap_setCell h1]; rfl
    have hc2 := cell_of (putObj_cells hK2 (.deferred none) hc1) 0 rfl
    have hfin : Chg (fun _ => False) w ((W.setCell ⟨n0 + 1, 0, none⟩ (.int .i64 ys.length)).putObj D (.deferred none)) := by
      have hb2 := hb.setCell (p := ⟨n0 + 1, 0, none⟩) (by simp; omega) (.int .i64 ys.length)
      exact Chg.ofBelow (hb2.grown (grownBy_putObj' _ D (.deferred none)) hb2.size (fun k e => by cases e; omega))
    have hmin : min N (ys.length : Int) = ys.length := by omega
    have HF := Lib.hid (⟨hc2, hfin, hmin⟩ : _ ∧ _ ∧ _)
    clear h0 h1 h2 hb hle hX hLX hsz hI hN hn0 hc1 hc2 hfin hmin hK
    gi_wp2
    refine ⟨by simp, .inl ⟨_, _, rfl, run_takeDeferred hK2, ?_⟩⟩
    obtain ⟨hc2, hfin, hmin⟩ := HF.out
    refine ⟨.int .i64 ys.length, ?_, by rw [hmin], hfin⟩
    simp [results, Try.f14, go_sem, hc2]
  case stop =>
    rintro D c pre W hD hpre ⟨rfl, h1, hb, hle⟩ hK
    have hc2 := cell_of (putObj_cells hK (.deferred none) h1) 0 rfl
    have hfin : Chg (fun _ => False) w (W.putObj D (.deferred none)) := Chg.ofBelow (hb.grown (grownBy_putObj' _ D (.deferred none)) hb.size (fun k e => by cases e; omega))
    have hpl := hpre.length_le
    have hmin : min N (L.length : Int) = N := by omega
    have HF := Lib.hid (⟨hc2, hfin, hmin⟩ : _ ∧ _ ∧ _)
    clear h1 hb hle hX hLX hsz hI hN hn0 hc2 hfin hmin hpre hpl
    gi_wp2
    refine ⟨by simp, .inl ⟨_, _, rfl, run_takeDeferred hK, ?_⟩⟩
    obtain ⟨hc2, hfin, hmin⟩ := HF.out
    refine ⟨.int .i64 N, ?_, by rw [hmin], hfin⟩
    simp [results, Try.f14, go_sem, hc2]
end Go.Proofs.Ythoagpagnldmeaa
