/- A chain of numbers: a row of it, and a nil chain. -/
import Derived.Test.YthoagpagnldmeaaCn
import Derived.Test.YthoagpagnldmeaaK3
import Derived.RangeFuncNested
import Derived.RangeFuncBound
import Derived.RangeFuncCalls
import Derived.RangeFuncLeaves
import Derived.Shelf.Abstract
import Derived.Shelf.RegionOpen
import Derived.WalkKit
import Derived.OwnWalkIn
import Derived.TacticsInMore
import Derived.LoopNIn
import Derived.LoopIn
set_option linter.unusedVariables false
set_option linter.unusedSimpArgs false
namespace Go.Proofs.Ythoagpagnldmeaa
open Go.RowKit Go.Ps
attribute [local go_sem] Oper.semAt_some
set_option maxRecDepth 100000 in
set_option maxHeartbeats 4000000 in
theorem row_back {w : World} {g : Nat} {mp : Option Nat} {X : List Mem} {nn : Int} {L : List (Int × Int)} (hch : ChW 95 54 w g mp X nn) (hL : Nm X L) (hX : X.length ≤ 1000) :
    Calls Try.prog 32 #[.pointer (some ⟨g, 0, none⟩), .bool true] w (RowPost L.reverse w) := by
  have hLX := hL.length
  obtain ⟨n0, hn0⟩ : ∃ n0, n0 = w.heap.size := ⟨_, rfl⟩
  obtain ⟨W2, hW2⟩ : ∃ W2, W2 = ((w.alloc (.cells #[.slice none 0 0] 33)).alloc (.cells #[.pointer (some ⟨g, 0, none⟩)] 23)).alloc (.cells #[.pointer (some ⟨g, 0, none⟩)] 23) := ⟨_, rfl⟩
  have hB0 : W2.heap[n0]? = some (.cells #[.slice none 0 0] 33 (0, 0)) := by rw [hW2, hn0]; exact heap_alloc_ne (heap_alloc_ne (heap_alloc_at _ _))
  have hB1 : W2.heap[n0 + 2]? = some (.cells #[.pointer (some ⟨g, 0, none⟩)] 23 (0, 0)) := by
    rw [hW2, hn0]
    have := heap_alloc_at ((w.alloc (.cells #[.slice none 0 0] 33)).alloc (.cells #[.pointer (some ⟨g, 0, none⟩)] 23)) (.cells #[.pointer (some ⟨g, 0, none⟩)] 23)
    rwa [World.size_alloc, World.size_alloc] at this
  have hbl : Below w.heap.size w W2 := by rw [hW2]; exact (((Below.refl _ w).alloc (Nat.le_refl _) _).alloc (by simp) _).alloc (by simp; omega) _
  have hsz : W2.heap.size = n0 + 3 := by rw [hW2, hn0]; simp
  have hown : ∀ k, (k = n0 + 2 ∨ Mine g mp X k) → ¬ OutOwn n0 W2 k := by
    rintro k hk ⟨h1, rfl | ⟨v, h2, h3⟩⟩
    · rcases hk with hk | hk
      · omega
      · have := hch.lt hk; omega
    · rw [cell_of hB0 0 rfl] at h2
      cases h2
      cases h3
  have hcoll : Coll 33 49 2 fmem n0 w [] W2 := ⟨_, hB0, OwnF.nil _ _ _ _, (fun k hk => by cases hk), hbl, by omega⟩
  have hst := back_stops (9 - 1) n0 n0 (n0 + 2) g mp X nn L W2 hB1 (hch.same (fun k hk => hbl.block k (hch.lt hk))) (by omega) hL (fun k hk => by rw [hn0]; exact hch.lt hk) (by omega) (fun v k h2 h3 => by rw [cell_of hB0 0 rfl] at h2; cases h2; cases h3) hown
  have HH := Lib.hid (⟨hch, hL, hX, hLX, hB0, hB1, hbl, hsz, hown, hcoll⟩ : _ ∧ _ ∧ _ ∧ _ ∧ _ ∧ _ ∧ _ ∧ _ ∧ _ ∧ _)
  have HST := Lib.hid hst
  have HW2 := Lib.hid hW2
  have HN0 := Lib.hid hn0
  clear hch hL hX hLX hB0 hB1 hbl hsz hown hcoll hst hn0 hW2
  refine (callsIn_wide (n := 9)).1 ?_
  refine callsIn_of_wp_marks Try.func32 rfl trivial ?_ rfl
  simp only [Try.ntmps32, List.size_toArray, List.length_cons, List.length_nil, Nat.reduceAdd, Nat.reduceSub, Array.replicate_succ, Array.replicate_zero, List.push_toArray, List.append_toArray, List.nil_append, List.cons_append]
  gi_wp2_with fail
  refine ⟨trivial, (callsIn_wide.2 (all_any _ _)).mono ?_⟩
  rintro e w' ⟨rfl, rfl⟩
  gi_wp2_with fail
  refine ⟨trivial, (callsIn_wide.2 (back_any _ _)).mono ?_⟩
  rintro e w' ⟨rfl, rfl⟩
  gi_wp2_with fail
  rw [← HW2.out, ← HN0.out]
  obtain ⟨hch, hL, hX, hLX, hB0, hB1, hbl, hsz, hown, hcoll⟩ := HH.out
  have hn0 := HN0.out
  refine wpIn_rangeFunc_ownF rfl (by omega) (gf := 87) (lb := #[.pointer (some ⟨n0 + 2, 0, none⟩)]) rfl trivial (enters_of Try.func87 (by kernel_rfl) rfl)
    HST.out (fun h k => Kept.trans h k) (kept_b (by omega) (by omega)) (Below.refl _ _) (fun _ => rfl)
    (fun pre W => Coll 33 49 2 fmem n0 w pre W) (fun _ _ _ => False) (Coll.ownFrom (by omega)) (fun _ _ _ _ _ hs _ _ => hs) hcoll
    (fun x => { tmps := #[.pointer (some ⟨g, 0, none⟩), .bool true, undef, undef, .slice none 0 0, .pointer (some ⟨n0, 0, none⟩), .func (.func 87) #[] #[.pointer (some ⟨n0 + 2, 0, none⟩)], .int .i64 x.1, .int .i64 x.2, .pointer (some ⟨g, 0, none⟩), .func (.func 85) #[] #[.pointer (some ⟨n0 + 1, 0, none⟩)], .bool true, .pointer (some ⟨g, 0, none⟩), .func (.func 87) #[] #[.pointer (some ⟨n0 + 2, 0, none⟩)], .func (.func 87) #[] #[.pointer (some ⟨n0 + 2, 0, none⟩)], .int .i64 x.1, .int .i64 x.2, undef, undef, undef, undef, undef, undef, undef, undef, undef, undef], defers := [] }) ?assign ?body ?done ?stop
  case assign =>
    clear hch hL hX hLX hB0 hB1 hbl hsz hown hcoll hn0
    intro l x W K hK
    simp only [encs]
    gi_wp2
    exact hK
  case body =>
    clear hch hL hB0 hB1 hbl hsz hown hcoll hn0
    rintro l pre x W hc hlt
    obtain ⟨A, m, c, A', c', w2, hm, hb, hrun, hb2, hb3, hko, hkp, hc3⟩ := hc.push n0 layM Try.underlying33 info49 rfl x (by omega) (by omega)
    have hle : (m : Int) + 1 ≤ 1000 := by omega
    have r0 := cell_of hb 0 rfl
    have r1 := cell_of hb2 0 rfl
    have r2 := frz hb2
    have r3 := cell_of hb3 0 rfl
    have HF := Lib.hid (⟨hko, hkp, hc3⟩ : _ ∧ _ ∧ _)
    clear hc hlt hm hb hb2 hb3 hko hkp hc3 hX hLX
    simp only [fmem] at hrun
    gi_wp2_with (gi_at_builtin; refine wpListIn_append_run rfl _ _ 33 rfl _ _ _ _ rfl rfl hrun ?_)
    exact HF.out
  case done =>
    rintro D ys W hD rfl hC hK
    obtain ⟨v, hb, ho, hf, hcg⟩ := hC.close hK (by omega) (.deferred none)
    have r0 := cell_of hb 0 rfl
    have HF := Lib.hid (⟨ho, hf, hcg⟩ : _ ∧ _ ∧ _)
    clear hch hL hX hLX hB0 hB1 hbl hsz hown hcoll hn0 hC hb ho hf hcg
    gi_wp2
    refine ⟨by simp, .inl ⟨_, _, rfl, run_takeDeferred hK, ?_⟩⟩
    exact ⟨_, results_tmp rfl _ _ _, v, rfl, HF.out⟩
  case stop =>
    rintro D c pre W _ _ h _
    exact h.elim
set_option maxRecDepth 100000 in
set_option maxHeartbeats 4000000 in
theorem row_all_nil (w : World) :
    Calls Try.prog 32 #[.pointer none, .bool false] w (RowPost [] w) := by
  obtain ⟨n0, hn0⟩ : ∃ n0, n0 = w.heap.size := ⟨_, rfl⟩
  obtain ⟨W2, hW2⟩ : ∃ W2, W2 = (w.alloc (.cells #[.slice none 0 0] 33)).alloc (.cells #[.pointer none] 23) := ⟨_, rfl⟩
  have hB0 : W2.heap[n0]? = some (.cells #[.slice none 0 0] 33 (0, 0)) := by rw [hW2, hn0]; exact heap_alloc_ne (heap_alloc_at _ _)
  have hB1 : W2.heap[n0 + 1]? = some (.cells #[.pointer none] 23 (0, 0)) := by
    rw [hW2, hn0]
    have := heap_alloc_at (w.alloc (.cells #[.slice none 0 0] 33)) (.cells #[.pointer none] 23)
    rwa [World.size_alloc] at this
  have hbl : Below w.heap.size w W2 := by rw [hW2]; exact ((Below.refl _ w).alloc (Nat.le_refl _) _).alloc (by simp) _
  have hsz : W2.heap.size = n0 + 2 := by rw [hW2, hn0]; simp
  have hcoll : Coll 33 49 2 fmem n0 w [] W2 := ⟨_, hB0, OwnF.nil _ _ _ _, (fun k hk => by cases hk), hbl, by omega⟩
  have hst := all_stops_nil (9 - 1) (Kept n0 n0) (n0 + 1) W2 hB1
  have HH := Lib.hid (⟨hB0, hB1, hbl, hsz, hcoll⟩ : _ ∧ _ ∧ _ ∧ _ ∧ _)
  have HST := Lib.hid hst
  have HW2 := Lib.hid hW2
  have HN0 := Lib.hid hn0
  clear hB0 hB1 hbl hsz hcoll hst hn0 hW2
  refine (callsIn_wide (n := 9)).1 ?_
  refine callsIn_of_wp_marks Try.func32 rfl trivial ?_ rfl
  simp only [Try.ntmps32, List.size_toArray, List.length_cons, List.length_nil, Nat.reduceAdd, Nat.reduceSub, Array.replicate_succ, Array.replicate_zero, List.push_toArray, List.append_toArray, List.nil_append, List.cons_append]
  gi_wp2_with fail
  refine ⟨trivial, (callsIn_wide.2 (all_any _ _)).mono ?_⟩
  rintro e w' ⟨rfl, rfl⟩
  gi_wp2_with fail
  rw [← HW2.out, ← HN0.out]
  obtain ⟨hB0, hB1, hbl, hsz, hcoll⟩ := HH.out
  have hn0 := HN0.out
  refine wpIn_rangeFunc_ownF rfl (by omega) (gf := 85) (lb := #[.pointer (some ⟨n0 + 1, 0, none⟩)]) rfl trivial (enters_of Try.func85 (by kernel_rfl) rfl)
    HST.out (fun h k => Kept.trans h k) (kept_b (by omega) (by omega)) (Below.refl _ _) (fun _ => rfl)
    (fun pre W => Coll 33 49 2 fmem n0 w pre W) (fun _ _ _ => False) (Coll.ownFrom (by omega)) (fun _ _ _ _ _ hs _ _ => hs) hcoll
    (fun x => { tmps := #[.pointer none, .bool false, undef, undef, .slice none 0 0, .pointer (some ⟨n0, 0, none⟩), .func (.func 85) #[] #[.pointer (some ⟨n0 + 1, 0, none⟩)], .int .i64 x.1, .int .i64 x.2, .pointer none, .func (.func 85) #[] #[.pointer (some ⟨n0 + 1, 0, none⟩)], .bool false,
      undef, undef, .func (.func 85) #[] #[.pointer (some ⟨n0 + 1, 0, none⟩)], .int .i64 x.1, .int .i64 x.2, undef, undef, undef, undef, undef, undef, undef, undef, undef, undef], defers := [] }) ?assign ?body ?done ?stop
  case assign =>
    clear hB0 hB1 hbl hsz hcoll hn0
    intro l x W K hK
    simp only [encs]
    gi_wp2
    exact hK
  case body =>
    clear hB0 hB1 hbl hsz hcoll hn0
    rintro l pre x W hc hlt
    exact absurd hlt (Nat.not_lt_zero _)
  case done =>
    rintro D ys W hD rfl hC hK
    obtain ⟨v, hb, ho, hf, hcg⟩ := hC.close hK (by omega) (.deferred none)
    have r0 := cell_of hb 0 rfl
    have HF := Lib.hid (⟨ho, hf, hcg⟩ : _ ∧ _ ∧ _)
    clear hB0 hB1 hbl hsz hcoll hn0 hC hb ho hf hcg
    gi_wp2
    refine ⟨by simp, .inl ⟨_, _, rfl, run_takeDeferred hK, ?_⟩⟩
    exact ⟨_, results_tmp rfl _ _ _, v, rfl, HF.out⟩
  case stop =>
    rintro D c pre W _ _ h _
    exact h.elim
set_option maxRecDepth 100000 in
set_option maxHeartbeats 4000000 in
theorem row_back_nil (w : World) :
    Calls Try.prog 32 #[.pointer none, .bool true] w (RowPost [] w) := by
  obtain ⟨n0, hn0⟩ : ∃ n0, n0 = w.heap.size := ⟨_, rfl⟩
  obtain ⟨W2, hW2⟩ : ∃ W2, W2 = ((w.alloc (.cells #[.slice none 0 0] 33)).alloc (.cells #[.pointer none] 23)).alloc (.cells #[.pointer none] 23) := ⟨_, rfl⟩
  have hB0 : W2.heap[n0]? = some (.cells #[.slice none 0 0] 33 (0, 0)) := by rw [hW2, hn0]; exact heap_alloc_ne (heap_alloc_ne (heap_alloc_at _ _))
  have hB1 : W2.heap[n0 + 2]? = some (.cells #[.pointer none] 23 (0, 0)) := by
    rw [hW2, hn0]
    have := heap_alloc_at ((w.alloc (.cells #[.slice none 0 0] 33)).alloc (.cells #[.pointer none] 23)) (.cells #[.pointer none] 23)
    rwa [World.size_alloc, World.size_alloc] at this
  have hbl : Below w.heap.size w W2 := by rw [hW2]; exact (((Below.refl _ w).alloc (Nat.le_refl _) _).alloc (by simp) _).alloc (by simp; omega) _
  have hsz : W2.heap.size = n0 + 3 := by rw [hW2, hn0]; simp
  have hcoll : Coll 33 49 2 fmem n0 w [] W2 := ⟨_, hB0, OwnF.nil _ _ _ _, (fun k hk => by cases hk), hbl, by omega⟩
  have hst := back_stops_nil (9 - 1) (Kept n0 n0) (n0 + 2) W2 hB1
  have HH := Lib.hid (⟨hB0, hB1, hbl, hsz, hcoll⟩ : _ ∧ _ ∧ _ ∧ _ ∧ _)
  have HST := Lib.hid hst
  have HW2 := Lib.hid hW2
  have HN0 := Lib.hid hn0
  clear hB0 hB1 hbl hsz hcoll hst hn0 hW2
  refine (callsIn_wide (n := 9)).1 ?_
  refine callsIn_of_wp_marks Try.func32 rfl trivial ?_ rfl
  simp only [Try.ntmps32, List.size_toArray, List.length_cons, List.length_nil, Nat.reduceAdd, Nat.reduceSub, Array.replicate_succ, Array.replicate_zero, List.push_toArray, List.append_toArray, List.nil_append, List.cons_append]
  gi_wp2_with fail
  refine ⟨trivial, (callsIn_wide.2 (all_any _ _)).mono ?_⟩
  rintro e w' ⟨rfl, rfl⟩
  gi_wp2_with fail
  refine ⟨trivial, (callsIn_wide.2 (back_any _ _)).mono ?_⟩
  rintro e w' ⟨rfl, rfl⟩
  gi_wp2_with fail
  rw [← HW2.out, ← HN0.out]
  obtain ⟨hB0, hB1, hbl, hsz, hcoll⟩ := HH.out
  have hn0 := HN0.out
  refine wpIn_rangeFunc_ownF rfl (by omega) (gf := 87) (lb := #[.pointer (some ⟨n0 + 2, 0, none⟩)]) rfl trivial (enters_of Try.func87 (by kernel_rfl) rfl)
    HST.out (fun h k => Kept.trans h k) (kept_b (by omega) (by omega)) (Below.refl _ _) (fun _ => rfl)
    (fun pre W => Coll 33 49 2 fmem n0 w pre W) (fun _ _ _ => False) (Coll.ownFrom (by omega)) (fun _ _ _ _ _ hs _ _ => hs) hcoll
    (fun x => { tmps := #[.pointer none, .bool true, undef, undef, .slice none 0 0, .pointer (some ⟨n0, 0, none⟩), .func (.func 87) #[] #[.pointer (some ⟨n0 + 2, 0, none⟩)], .int .i64 x.1, .int .i64 x.2, .pointer none, .func (.func 85) #[] #[.pointer (some ⟨n0 + 1, 0, none⟩)], .bool true, .pointer none, .func (.func 87) #[] #[.pointer (some ⟨n0 + 2, 0, none⟩)], .func (.func 87) #[] #[.pointer (some ⟨n0 + 2, 0, none⟩)], .int .i64 x.1, .int .i64 x.2, undef, undef, undef, undef, undef, undef, undef, undef, undef, undef], defers := [] }) ?assign ?body ?done ?stop
  case assign =>
    clear hB0 hB1 hbl hsz hcoll hn0
    intro l x W K hK
    simp only [encs]
    gi_wp2
    exact hK
  case body =>
    clear hB0 hB1 hbl hsz hcoll hn0
    rintro l pre x W hc hlt
    exact absurd hlt (Nat.not_lt_zero _)
  case done =>
    rintro D ys W hD rfl hC hK
    obtain ⟨v, hb, ho, hf, hcg⟩ := hC.close hK (by omega) (.deferred none)
    have r0 := cell_of hb 0 rfl
    have HF := Lib.hid (⟨ho, hf, hcg⟩ : _ ∧ _ ∧ _)
    clear hB0 hB1 hbl hsz hcoll hn0 hC hb ho hf hcg
    gi_wp2
    refine ⟨by simp, .inl ⟨_, _, rfl, run_takeDeferred hK, ?_⟩⟩
    exact ⟨_, results_tmp rfl _ _ _, v, rfl, HF.out⟩
  case stop =>
    rintro D c pre W _ _ h _
    exact h.elim
set_option maxRecDepth 20000 in
theorem awake_any (w : World) : Calls Try.prog 11 #[] w fun e w' => e = .returned (.bool true) ∧ Chg (fun _ => False) w w' := by
  go_enter Try.func11, Try.ntmps11
  go_wp2_with fail
  refine (new_any _).mono ?_
  rintro e w1 ⟨g, rfl, hg, h, hC⟩
  have HC := Lib.hid hC
  have HL := Lib.hid (last_any 5 h (by omega) (by omega))
  have HG := Lib.hid hg
  clear h hC hg
  go_wp2_with fail
  refine HL.out.mono ?_
  rintro e w2 ⟨b, rfl, mp, h2, hC2, _⟩
  have HC2 := Lib.hid (HC.out.trans hC2 (fun k hk hm => by
    have := HG.out
    rcases hm with e | e | ⟨x, hx, _⟩
    · omega
    · cases e
    · cases hx))
  have HL2 := Lib.hid (len_any h2)
  clear h2 hC2 HL
  rw [show (0 : Int) + 1 = 1 from rfl]
  go_wp2_with fail
  refine HL2.out.mono ?_
  rintro e w3 ⟨rfl, rfl⟩
  go_wp2
  go_ret
  exact ⟨rfl, HC2.out⟩
structure Pl where
  kind : Int
  a : Int
  b : Int
  v : Int
def Pl.w (o : Pl) : Value := .agg #[.int .i64 o.kind, .int .i64 o.a, .int .i64 o.b, .int .i64 o.v]
section
open Go.Joins Go.WideShapes
variable {H : Type} {enc : TypeId × Value → H} {W : World} {base : Nat} {spare : Nat → Bool} {held : Bool}
set_option maxRecDepth 20000 in
theorem open_op {r : Reach} {b0 : Nat} {v : Value} {d : DataW H} {p : List MemPlace} (hv : Value.okWide Try.prog W r b0 37 v) (h : DataW.Trod enc Try.prog W base spare held 37 v d p) : ∃ z : Pl, v = z.w ∧ True := by
  obtain ⟨v0, v1, v2, v3, y0, y1, y2, y3, n, rfl, _, _, h0, h1, h2, h3⟩ := open_agg4 Try.underlying37 (by kernel_rfl) (by kernel_rfl) hv h
  obtain ⟨a0, e0, _, w0⟩ := DataW.trod_int Try.underlying3 h0
  obtain ⟨a1, e1, _, w1⟩ := DataW.trod_int Try.underlying3 h1
  obtain ⟨a2, e2, _, w2⟩ := DataW.trod_int Try.underlying3 h2
  obtain ⟨a3, e3, _, w3⟩ := DataW.trod_int Try.underlying3 h3
  simp only [List.cons.injEq, and_true] at e0 e1 e2 e3
  subst e0 e1 e2 e3
  exact ⟨⟨a0, a1, a2, a3⟩, rfl, trivial⟩
end
set_option maxRecDepth 100000 in
set_option maxHeartbeats 2000000 in
theorem chainNil_walk (z : Pl) (w : World) (hz : True) : Calls Try.prog 6 #[z.w] w fun e w' => e = .returned (.bool true) ∧ Below w.heap.size w w' := by
  obtain ⟨k, a, b, n⟩ := z
  unfold Pl.w
  go_enter Try.func6, Try.ntmps6
  go_wp2_with fail
  refine (awake_any _).mono ?_
  rintro e w1 ⟨rfl, hC⟩
  have c := chg_heap0 hC (heap_alloc_at w _)
  have HC := Lib.hid (((Chg.refl (fun _ => False) w).alloc _).trans hC (fun _ _ => id))
  obtain ⟨g, hg⟩ : ∃ g, g = w.heap.size := ⟨_, rfl⟩
  rw [← hg] at c ⊢
  obtain ⟨x0, x1, x2, x3⟩ := read4 c
  clear hC hg
  go_wp2_with fail
  refine (ahead_nil _ _ _).mono ?_
  rintro e w' ⟨rfl, rfl⟩
  go_wp2_with fail
  refine (remove_nil _ _).mono ?_
  rintro e w' ⟨rfl, rfl⟩
  go_wp2_with fail
  refine (get_nil _ _).mono ?_
  rintro e w' ⟨rfl, rfl⟩
  go_wp2_with fail
  refine (last_nil _ _).mono ?_
  rintro e w' ⟨rfl, rfl⟩
  go_wp2_with fail
  refine (first_nil _ _).mono ?_
  rintro e w' ⟨rfl, rfl⟩
  go_wp2_with fail
  refine (move_nil _ _ _).mono ?_
  rintro e w' ⟨rfl, rfl⟩
  go_wp2_with fail
  refine (set_nil _ _ _).mono ?_
  rintro e w' ⟨rfl, rfl⟩
  go_wp2_with fail
  refine (len_nil  _).mono ?_
  rintro e w' ⟨rfl, rfl⟩
  go_wp2_with fail
  refine (row_all_nil _).mono ?_
  rintro e w2 ⟨v, rfl, ho, _, hC⟩
  obtain ⟨A, c1, rfl, _⟩ := ho.form
  have HC2 := Lib.hid (HC.out.trans hC (fun _ _ => id))
  obtain ⟨y0, y1, y2, y3⟩ := read4 (chg_heap0 hC c)
  have c2 := chg_heap0 hC c
  clear ho hC c x0 x1 x2 x3 HC y0 y1 y2 y3 c2
  simp only [List.length_nil]
  go_wp2_with fail
  refine (row_back_nil _).mono ?_
  rintro e w3 ⟨v, rfl, ho, _, hC⟩
  obtain ⟨A2, c2, rfl, _⟩ := ho.form
  have HC3 := Lib.hid (HC2.out.trans hC (fun _ _ => id))
  clear ho hC HC2
  simp only [List.length_nil]
  go_wp2
  go_ret
  exact ⟨rfl, HC3.out.below (fun k hk => ⟨hk, id⟩)⟩
end Go.Proofs.Ythoagpagnldmeaa
