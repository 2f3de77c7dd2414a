/- A chain of numbers: fresh. -/
import Derived.Test.YthoagpagnldmeaaCf
set_option linter.unusedVariables false
set_option linter.unusedSimpArgs false
namespace Go.Proofs.Ythoagpagnldmeaa
open Go.RowKit Go.Ps
theorem wrap_i {n : Int} (h0 : -9223372036854775808 ≤ n) (h1 : n < 9223372036854775808) : IntKind.i64.wrap n = n := by
  unfold IntKind.wrap
  simp [IntKind.signed, IntKind.bits]
  omega
theorem IMap_drew {w : World} {B : Nat} {ps : List (Int × Value)} (h : IMap w B ps) : IMap w.drew B ps := h
/-- A map that says which member has which handle, and a new one. -/
theorem MapIs.put {W : World} {bm : Nat} {X : List Mem} {ps : List (Int × Value)} {m : Mem} (h1 : ps.length = X.length) (h2 : ∀ x ∈ X, IM.get ps x.h (.pointer none) = .pointer (some ⟨x.b, 0, none⟩)) (h3 : ∀ k, (∀ x ∈ X, x.h ≠ k) → IM.has ps k = false) (h4 : (ps.map Prod.fst).Nodup) (hm : ∀ x ∈ X, x.h ≠ m.h)
    (h : IMap W bm (IM.upd m.h (.pointer (some ⟨m.b, 0, none⟩)) ps)) : MapIs W (some bm) (m :: X) := by
  refine ⟨_, h, ?_, ?_, ?_, im_nodup_upd h4⟩
  · rw [IM.length_upd, h3 m.h hm]
    simp [h1]
  · intro x hx
    rw [IM.get_upd]
    rcases List.mem_cons.1 hx with rfl | hx
    · rw [if_pos rfl]
    · rw [if_neg (hm x hx)]
      exact h2 x hx
  · intro k hk
    rw [IM.has_upd, h3 k (fun x hx => hk x (by simp [hx]))]
    simp
    exact fun e => hk m (by simp) e.symm
def FreshPost (tm tc : TypeId) (g : Nat) (mp : Option Nat) (X : List Mem) (n : Int) (v : Value) (w : World) (e : Ending) (w' : World) : Prop :=
  ∃ bm b, e = .returned (.pointer (some ⟨b, 0, none⟩)) ∧ w.heap.size ≤ b ∧ (mp = some bm ∨ w.heap.size ≤ bm) ∧ bm ≠ b ∧ bm ≠ g ∧ Row tm tc w' g (some bm) X (n + 1) ∧ Node tm w' ⟨b, n + 1, v⟩ none none ∧ MapIs w' (some bm) (⟨b, n + 1, v⟩ :: X) ∧ Chg (Mine g mp X) w w'
theorem fresh_fin {tm tc : TypeId} {V w4 : World} {g bm : Nat} {X : List Mem} {n : Int} {m : Mem} (hR : Row tm tc V g (some bm) X n) (hN : Node tm V m none none) (h1 : bm ≠ g) (h2 : bm ≠ m.b) (h3 : ∀ x ∈ X, x.b ≠ bm) (hg : V.drew.grownBy w4 (some bm)) :
    Row tm tc w4 g (some bm) X n ∧ Node tm w4 m none none := by
  have hs : ∀ k, k < V.heap.size → k ≠ bm → w4.heap[k]? = V.heap[k]? := fun k hk hne => hg.block k hk (fun e => hne (Option.some.inj e))
  refine ⟨hR.same (fun k hk => hs k (hR.lt hk) ?_), (hs _ (heap_lt hN) (Ne.symm h2)).trans hN⟩
  rcases hk with rfl | ⟨x, hx, rfl⟩
  · exact Ne.symm h1
  · exact h3 x hx
set_option maxRecDepth 20000 in
theorem fresh_some {w : World} {g bm : Nat} {X : List Mem} {n : Int} (z : Int) (h : ChW 95 54 w g (some bm) X n) (hn0 : 0 ≤ n) (hn : n < 1000000) :
    Calls Try.prog 56 #[.pointer (some ⟨g, 0, none⟩), .int .i64 z] w (FreshPost 95 54 g (some bm) X n (.int .i64 z) w) := by
  obtain ⟨ps, hm, h1, h2, h3, h4⟩ := h.map
  have hgm : bm ≠ g := fun e => h.gm (by rw [e])
  have hw := wrap_i (n := n + 1) (by omega) (by omega)
  obtain ⟨x0, x1, x2, x3⟩ := read4 h.row.cell
  have f0 := frz h.row.cell
  have hlt : bm < w.heap.size := hm.lt
  have hC5 : Chg (fun k => k = g) w ((w.setCell ⟨g, 3, none⟩ (.int .i64 (n + 1))).alloc (.cells #[.int .i64 (n + 1), .int .i64 z, .pointer none, .pointer none] 95)) := (chg1 (F := fun k => k = g) (Chg.refl _ w) rfl _).alloc _
  have hm3 := hm.chg hC5 hgm
  obtain ⟨w4, hrun, hm4, hg4⟩ := (IMap_drew hm3).store Try.underlying52 Try.underlying3 (n + 1) (.pointer (some ⟨w.heap.size, 0, none⟩))
  have hc : (w.setCell ⟨g, 3, none⟩ (.int .i64 (n + 1))).heap[g]? = some (.cells #[ptr (hd X none), ptr (lst none X), .map (some bm), .int .i64 (n + 1)] 54 (0, 0)) := by rw [heap_setCell h.row.cell]; rfl
  have hs : (w.setCell ⟨g, 3, none⟩ (.int .i64 (n + 1))).heap.size = w.heap.size := by simp [World.setCell]
  have hb := heap_alloc_at (w.setCell ⟨g, 3, none⟩ (.int .i64 (n + 1))) (.cells #[.int .i64 (n + 1), .int .i64 z, .pointer none, .pointer none] 95)
  rw [hs] at hb
  have fin : FreshPost 95 54 g (some bm) X n (.int .i64 z) w (.returned (.pointer (some ⟨w.heap.size, 0, none⟩))) w4 := by
    have hR5 : Row 95 54 ((w.setCell ⟨g, 3, none⟩ (.int .i64 (n + 1))).alloc (.cells #[.int .i64 (n + 1), .int .i64 z, .pointer none, .pointer none] 95)) g (some bm) X (n + 1) :=
      ⟨heap_alloc_ne hc, h.row.seg.same (fun x hx => hC5.block _ (h.row.lt (.inr ⟨x, hx, rfl⟩)) (h.row.ng x hx)), h.row.nd, h.row.ng⟩
    obtain ⟨r1, r2⟩ := fresh_fin (m := ⟨w.heap.size, n + 1, .int .i64 z⟩) hR5 hb hgm (by simp; omega) (fun x hx e => h.xm x hx (by rw [e])) hg4
    refine ⟨bm, w.heap.size, rfl, Nat.le_refl _, .inl rfl, by omega, hgm, r1, r2, ?_, ?_⟩
    · exact MapIs.put (m := ⟨w.heap.size, n + 1, .int .i64 z⟩) h1 h2 h3 h4 (fun x hx e => by have := (h.hb x hx).2; simp at e; omega) hm4
    · exact ((hC5.mono (G := Mine g (some bm) X) (fun k _ hk => .inl hk)).drew).grown hg4 (fun k hk _ => .inr (.inl hk))
  have FIN := Lib.hid fin
  have HB := Lib.hid hb
  have HC := Lib.hid hc
  have HRUN := Lib.hid hrun
  clear h hn0 hn h1 h2 h3 h4 hm hm3 hrun hb hc hs fin hlt hC5 hm4 hg4
  have qT : ∀ (w : World) (r : Option Nat), (binOp .eql 52 (.map r) (.map none)).run Try.prog w = .ok (.bool r.isNone) w := fun w r => run_eql_map_nil w _ _ _ r Try.underlying52
  go_enter Try.func56, Try.ntmps56
  go_wp2_with fail
  obtain ⟨y0, y1, y2, y3⟩ := read4 (heap_alloc_ne (o := .cells #[.int .i64 (n + 1), .int .i64 z, .pointer none, .pointer none] 95) HC.out)
  obtain ⟨z0, z1, z2, z3⟩ := read4 HB.out
  have hrun := HRUN.out
  go_region
  go_wp2
  go_ret
  exact FIN.out
set_option maxRecDepth 20000 in
theorem fresh_none {w : World} {g : Nat} {X : List Mem} {n : Int} (z : Int) (h : ChW 95 54 w g none X n) (hn0 : 0 ≤ n) (hn : n < 1000000) :
    Calls Try.prog 56 #[.pointer (some ⟨g, 0, none⟩), .int .i64 z] w (FreshPost 95 54 g none X n (.int .i64 z) w) := by
  have hX : X = [] := h.map
  subst hX
  have hw := wrap_i (n := n + 1) (by omega) (by omega)
  have hlt := heap_lt h.row.cell
  have hgm : w.heap.size ≠ g := by omega
  obtain ⟨x0, x1, x2, x3⟩ := read4 h.row.cell
  have f0 := frz h.row.cell
  have hc1 : (w.alloc (.map #[] 0)).heap[g]? = some (.cells #[ptr (hd [] none), ptr (lst none []), .map none, .int .i64 n] 54 (0, 0)) := heap_alloc_ne h.row.cell
  have hc2 : ((w.alloc (.map #[] 0)).setCell ⟨g, 2, none⟩ (.map (some w.heap.size))).heap[g]? = some (.cells #[ptr (hd [] none), ptr (lst none []), .map (some w.heap.size), .int .i64 n] 54 (0, 0)) := by rw [heap_setCell hc1]; rfl
  have hc : (((w.alloc (.map #[] 0)).setCell ⟨g, 2, none⟩ (.map (some w.heap.size))).setCell ⟨g, 3, none⟩ (.int .i64 (n + 1))).heap[g]? = some (.cells #[ptr (hd [] none), ptr (lst none []), .map (some w.heap.size), .int .i64 (n + 1)] 54 (0, 0)) := by rw [heap_setCell hc2]; rfl
  have hs : (((w.alloc (.map #[] 0)).setCell ⟨g, 2, none⟩ (.map (some w.heap.size))).setCell ⟨g, 3, none⟩ (.int .i64 (n + 1))).heap.size = w.heap.size + 1 := by simp [World.setCell]
  have hC5 : Chg (fun k => k = g) w ((((w.alloc (.map #[] 0)).setCell ⟨g, 2, none⟩ (.map (some w.heap.size))).setCell ⟨g, 3, none⟩ (.int .i64 (n + 1))).alloc (.cells #[.int .i64 (n + 1), .int .i64 z, .pointer none, .pointer none] 95)) := (chg1 (F := fun k => k = g) (chg1 (F := fun k => k = g) ((Chg.refl _ w).alloc _) rfl _) rfl _).alloc _
  have hm1 : IMap ((((w.alloc (.map #[] 0)).setCell ⟨g, 2, none⟩ (.map (some w.heap.size))).setCell ⟨g, 3, none⟩ (.int .i64 (n + 1))).alloc (.cells #[.int .i64 (n + 1), .int .i64 z, .pointer none, .pointer none] 95)) w.heap.size [] :=
    (IMap.made w).chg ((chg1 (F := fun k => k = g) (chg1 (F := fun k => k = g) (Chg.refl _ _) rfl _) rfl _).alloc _) hgm
  obtain ⟨w4, hrun, hm4, hg4⟩ := (IMap_drew hm1).store Try.underlying52 Try.underlying3 (n + 1) (.pointer (some ⟨w.heap.size + 1, 0, none⟩))
  have hb := heap_alloc_at (((w.alloc (.map #[] 0)).setCell ⟨g, 2, none⟩ (.map (some w.heap.size))).setCell ⟨g, 3, none⟩ (.int .i64 (n + 1))) (.cells #[.int .i64 (n + 1), .int .i64 z, .pointer none, .pointer none] 95)
  rw [hs] at hb
  have fin : FreshPost 95 54 g none [] n (.int .i64 z) w (.returned (.pointer (some ⟨w.heap.size + 1, 0, none⟩))) w4 := by
    have hR5 : Row 95 54 ((((w.alloc (.map #[] 0)).setCell ⟨g, 2, none⟩ (.map (some w.heap.size))).setCell ⟨g, 3, none⟩ (.int .i64 (n + 1))).alloc (.cells #[.int .i64 (n + 1), .int .i64 z, .pointer none, .pointer none] 95)) g (some w.heap.size) [] (n + 1) :=
      ⟨heap_alloc_ne hc, trivial, by simp, by simp⟩
    obtain ⟨r1, r2⟩ := fresh_fin (m := ⟨w.heap.size + 1, n + 1, .int .i64 z⟩) hR5 hb hgm (by simp) (by simp) hg4
    refine ⟨w.heap.size, w.heap.size + 1, rfl, by omega, .inr (Nat.le_refl _), by omega, hgm, r1, r2, ?_, ?_⟩
    · exact MapIs.put (X := []) (m := ⟨w.heap.size + 1, n + 1, .int .i64 z⟩) rfl (by simp) (fun k _ => IM.has_nil k) (by simp) (by simp) hm4
    · exact ((hC5.mono (G := Mine g none []) (fun k _ hk => .inl hk)).drew).grown hg4 (fun k hk hk2 => by cases hk; omega)
  have FIN := Lib.hid fin
  have HB := Lib.hid hb
  have HC := Lib.hid hc
  have HC1 := Lib.hid hc1
  have HC2 := Lib.hid hc2
  have HRUN := Lib.hid hrun
  have HG := Lib.hid hgm
  clear h hn0 hn hm1 hrun hb hc hs fin hlt hC5 hm4 hg4 hgm hc1 hc2
  simp only [hd_nil, lst_nil, ptr_none] at x0 x1
  have qT : ∀ (w : World) (r : Option Nat), (binOp .eql 52 (.map r) (.map none)).run Try.prog w = .ok (.bool r.isNone) w := fun w r => run_eql_map_nil w _ _ _ r Try.underlying52
  have hmm := @run_makeMap Try.prog
  go_enter Try.func56, Try.ntmps56
  go_upto_region 2 with (fail)
  obtain ⟨q0, q1, q2, q3⟩ := read4 HC1.out
  have f1 := frz HC1.out
  go_upto_region 3 with (fail)
  clear q0 q1 q2 q3 f1
  obtain ⟨q0, q1, q2, q3⟩ := read4 HC2.out
  have f1 := frz HC2.out
  go_upto_region 5 with (fail)
  clear q0 q1 q2 q3 f1
  obtain ⟨y0, y1, y2, y3⟩ := read4 (heap_alloc_ne (o := .cells #[.int .i64 (n + 1), .int .i64 z, .pointer none, .pointer none] 95) HC.out)
  obtain ⟨z0, z1, z2, z3⟩ := read4 HB.out
  have hrun := HRUN.out
  go_region
  go_wp2
  go_ret
  exact FIN.out
theorem fresh_any {w : World} {g : Nat} {mp : Option Nat} {X : List Mem} {n : Int} (z : Int) (h : ChW 95 54 w g mp X n) (hn0 : 0 ≤ n) (hn : n < 1000000) :
    Calls Try.prog 56 #[.pointer (some ⟨g, 0, none⟩), .int .i64 z] w (FreshPost 95 54 g mp X n (.int .i64 z) w) := by
  cases mp with
  | none => exact fresh_none z h hn0 hn
  | some bm => exact fresh_some z h hn0 hn
end Go.Proofs.Ythoagpagnldmeaa
