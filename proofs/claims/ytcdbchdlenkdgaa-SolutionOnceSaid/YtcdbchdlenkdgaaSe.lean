/- Solutions: the program's Decode. -/
import Derived.Test.YtcdbchdlenkdgaaSn
import Derived.Test.YtcdbchdlenkdgaaCd
import Derived.Test.YtcdbchdlenkdgaaK4
import Derived.Test.YtcdbchdlenkdgaaRh
set_option linter.unusedVariables false
set_option linter.unusedSimpArgs false
namespace Go.Proofs.Ytcdbchdlenkdgaa
open Go.RowKit Go.Ps

def fE (e : Int × Int × Int) : List Value := [.int .i64 e.1, .int .i64 e.2.1, .int .u64 e.2.2]
theorem layE : Lay fE 3 := ⟨fun _ => rfl, fun a u hu => by simp [fE] at hu; rcases hu with rfl | rfl | rfl <;> rfl, by decide⟩
theorem info3 : (Try.prog.info? 3).map (fun i => (i.zero, i.size, i.bytes)) = some (some (.int .i64 0), 1, 8) := by kernel_rfl
theorem info74 : (Try.prog.info? 74).map (fun i => (i.zero, i.size, i.bytes)) = some (some (.agg #[.int .i64 0, .int .i64 0, .int .u64 0]), 3, 24) := by kernel_rfl
def zeroS : Obj := .cells #[.slice none 0 0, .slice none 0 0, .int .u64 0, .int .u64 0, .int .u64 0, .int .u64 0] 49 (0, 0)
/-- What Decode has in memory. -/
structure Ds (w : World) (g0 gr gc : Nat) (s : List Int × Bool) (x : Sol) (VA VB : Value) (W : World) : Prop where
  rd : RdS W gr w.heap.size s
  cell : W.heap[gc]? = some (objS VA VB x 49)
  zero : W.heap[g0]? = some zeroS
  ownA : Own W 3 .i64 VA x.com
  ownB : OwnF W 74 3 fE VB x.edges
  farA : ∀ k, VA.ownBlock = some k → k ≠ gr ∧ k ≠ gc ∧ k ≠ g0 ∧ w.heap.size ≤ k
  farB : ∀ k, VB.ownBlock = some k → (k ≠ gr ∧ k ≠ gc ∧ k ≠ g0 ∧ w.heap.size ≤ k) ∧ VA.ownBlock ≠ some k
  chg : Chg (fun _ => False) w W
  ne : gr ≠ gc ∧ gr ≠ g0 ∧ gc ≠ g0 ∧ w.heap.size ≤ gr ∧ w.heap.size ≤ gc ∧ w.heap.size ≤ g0
theorem RdS.chg2 {w w' : World} {g b0 : Nat} {s : List Int × Bool} {F : Nat → Prop} (h : RdS w g b0 s) (hc : Chg F w w') (hg : ¬ F g) (hA : ∀ k, k < b0 → ¬ F k) : RdS w' g b0 s := by
  obtain ⟨A, c, h1, h2, h3, h4, h5, h6⟩ := h
  refine ⟨A, c, chg_keep hc h1 hg, ?_, h3, h4, h5, h6⟩
  by_cases hne : s.1 = []
  · exact fun h => absurd hne h
  · exact h2.chg hc (fun a ha => hA _ (h4.2 hne a ha))
theorem RdS.lt {w : World} {g b0 : Nat} {s : List Int × Bool} (h : RdS w g b0 s) : g < w.heap.size := by obtain ⟨A, c, h1, _⟩ := h; exact heap_lt h1
theorem RdS.bytes {w : World} {g b0 : Nat} {s : List Int × Bool} (h : RdS w g b0 s) : Bytes s.1 := by obtain ⟨A, c, h1, h2, h3, h4, h5, h6⟩ := h; exact h5
section
variable {w W W' : World} {g0 gr gc : Nat} {s s' : List Int × Bool} {x : Sol} {VA VB : Value}
theorem Ds.grow (h : Ds w g0 gr gc s x VA VB W) (hc : Chg (fun _ => False) W W') : Ds w g0 gr gc s x VA VB W' :=
  ⟨h.rd.chg hc, chg_heap hc h.cell, chg_heap hc h.zero, h.ownA.chg hc (fun _ _ => id), h.ownB.chg hc (fun _ _ => id), h.farA, h.farB, chg_trans h.chg hc, h.ne⟩
theorem Ds.read (h : Ds w g0 gr gc s x VA VB W) (hr : RdS W' gr w.heap.size s') (hc : Chg (fun k => k = gr) W W') : Ds w g0 gr gc s' x VA VB W' := by
  obtain ⟨n1, n2, n3, n4, n5, n6⟩ := h.ne
  exact ⟨hr, chg_keep hc h.cell (fun e => n1 e.symm), chg_keep hc h.zero (fun e => n2 e.symm), h.ownA.chg hc (fun k hk => (h.farA k hk).1), h.ownB.chg hc (fun k hk => (h.farB k hk).1.1), h.farA, h.farB, h.chg.trans hc (fun k hk e => by omega), h.ne⟩
theorem Ds.num (h : Ds w g0 gr gc s x VA VB W) (most : Int) (hm : 0 ≤ most ∧ most ≤ 18446744073709551615) : Calls Try.prog 49 #[.pointer (some ⟨gr, 0, none⟩), .int .u64 most] W (fun e W' => e = .returned (.int .u64 (rnum s most).1) ∧ Ds w g0 gr gc (rnum s most).2 x VA VB W') :=
  (number49_any W gr w.heap.size s most h.rd hm).mono fun e W' ⟨he, hr, hc⟩ => ⟨he, h.read hr hc⟩
theorem Ds.id (h : Ds w g0 gr gc s x VA VB W) : Calls Try.prog 50 #[.pointer (some ⟨gr, 0, none⟩)] W (fun e W' => e = .returned (.int .i64 (rnum s most31).1) ∧ Ds w g0 gr gc (rnum s most31).2 x VA VB W') :=
  (id50_any W gr w.heap.size s h.rd).mono fun e W' ⟨he, hr, hc⟩ => ⟨he, h.read hr hc⟩
theorem Ds.cells (h : Ds w g0 gr gc s x VA VB W) : W.cell? ⟨gc, 0, none⟩ = some VA ∧ W.cell? ⟨gc, 1, none⟩ = some VB ∧ W.cell? ⟨gc, 2, none⟩ = some (.int .u64 x.mn) ∧ W.cell? ⟨gc, 3, none⟩ = some (.int .u64 x.sm) ∧ W.cell? ⟨gc, 4, none⟩ = some (.int .u64 x.hi) ∧ W.cell? ⟨gc, 5, none⟩ = some (.int .u64 x.lo) := read6 h.cell
theorem Ds.frz (h : Ds w g0 gr gc s x VA VB W) (i : Nat) : W.frozen? ⟨gc, i, none⟩ = false := frozen_of h.cell i
/-- append to the members, and the store. -/
theorem Ds.pushA (h : Ds w g0 gr gc s x VA VB W) (n : Int) (hl : x.com.length ≤ 1000) :
    ∃ A' n' c' w7, (Builtin.append_ #[44, 44] 44 #[VA, .slice (some ⟨W.heap.size, 0, none⟩) 1 1]).run Try.prog (W.alloc (.cells #[.int .i64 n] 3)) = .ok (.slice A' n' c') w7 ∧ w7.cell? ⟨gc, 0, none⟩ = some VA ∧ w7.frozen? ⟨gc, 0, none⟩ = false ∧
      Ds w g0 gr gc s { x with com := x.com ++ [n] } (.slice A' n' c') VB (w7.setCell ⟨gc, 0, none⟩ (.slice A' n' c')) := by
  obtain ⟨A', c', w7, hrun, ho, hg, hat⟩ := h.ownA.append1W (P := Try.prog) 44 Try.underlying44 info3 n (by omega) (by omega)
  obtain ⟨n1, n2, n3, n4, n5, n6⟩ := h.ne
  have hc : Chg (fun k => VA.ownBlock = some k) W w7 := (Chg.refl _ W).grown hg (fun k hk _ => hk)
  have fgr : ¬ VA.ownBlock = some gr := fun e => (h.farA _ e).1 rfl
  have fgc : ¬ VA.ownBlock = some gc := fun e => (h.farA _ e).2.1 rfl
  have fg0 : ¬ VA.ownBlock = some g0 := fun e => (h.farA _ e).2.2.1 rfl
  have hcell := chg_keep hc h.cell fgc
  have h1 := h.rd.lt
  have h2 := heap_lt h.cell
  have h3 := heap_lt h.zero
  have hs0 := h.chg.size
  have far' : ∀ q, Value.ownBlock (.slice A' (x.com.length + 1) c') = some q → (q ≠ gr ∧ q ≠ gc ∧ q ≠ g0 ∧ w.heap.size ≤ q) ∧ VB.ownBlock ≠ some q := fun q hq => by
    rcases hat q hq with e | e
    · exact ⟨h.farA q e, fun hb => (h.farB q hb).2 e⟩
    · exact ⟨⟨by omega, by omega, by omega, by omega⟩, fun hb => by have := h.ownB.lt hb; omega⟩
  have hc2 : Chg (fun k => k = gc) w7 (w7.setCell ⟨gc, 0, none⟩ (.slice A' (x.com.length + 1) c')) := chg_set_g (Chg.refl _ _) 0 _
  refine ⟨A', _, c', w7, hrun, cell_of hcell 0 rfl, frozen_of hcell 0, ?_⟩
  refine ⟨(h.rd.chg2 hc fgr (fun q hq e => by have := (h.farA q e).2.2.2; omega)).chg2 hc2 n1 (fun q hq e => by omega), ?_, chg_keep hc2 (chg_keep hc h.zero fg0) (fun e => n3 e.symm), ho.chg hc2 (fun q hq e => (far' q hq).1.2.1 e), (h.ownB.chg hc (fun q hq e => (h.farB q hq).2 e)).chg hc2 (fun q hq e => (h.farB q hq).1.2.1 e), fun q hq => (far' q hq).1, fun q hq => ⟨(h.farB q hq).1, fun e => (far' q e).2 hq⟩, (h.chg.trans hc (fun q hq e => by have := (h.farA q e).2.2.2; omega)).trans hc2 (fun q hq e => by omega), h.ne⟩
  have := heap_setCell hcell 0 (.slice A' (x.com.length + 1) c')
  rw [this]
  rfl
/-- append to the edges, and the store. -/
theorem Ds.pushB (h : Ds w g0 gr gc s x VA VB W) (e : Int × Int × Int) (hl : x.edges.length ≤ 1000) :
    ∃ A' n' c' w7, (Builtin.append_ #[45, 45] 45 #[VB, .slice (some ⟨W.heap.size, 0, none⟩) 1 1]).run Try.prog (W.alloc (.cells #[.int .i64 e.1, .int .i64 e.2.1, .int .u64 e.2.2] 74)) = .ok (.slice A' n' c') w7 ∧ w7.cell? ⟨gc, 1, none⟩ = some VB ∧ w7.frozen? ⟨gc, 1, none⟩ = false ∧
      Ds w g0 gr gc s { x with edges := x.edges ++ [e] } VA (.slice A' n' c') (w7.setCell ⟨gc, 1, none⟩ (.slice A' n' c')) := by
  obtain ⟨A', c', w7, hrun, ho, hg, hat⟩ := h.ownB.append1 (P := Try.prog) layE 45 Try.underlying45 info74 rfl e (by omega) (by omega)
  obtain ⟨n1, n2, n3, n4, n5, n6⟩ := h.ne
  have hc : Chg (fun k => VB.ownBlock = some k) W w7 := (Chg.refl _ W).grown hg (fun k hk _ => hk)
  have fgr : ¬ VB.ownBlock = some gr := fun e => (h.farB _ e).1.1 rfl
  have fgc : ¬ VB.ownBlock = some gc := fun e => (h.farB _ e).1.2.1 rfl
  have fg0 : ¬ VB.ownBlock = some g0 := fun e => (h.farB _ e).1.2.2.1 rfl
  have hcell := chg_keep hc h.cell fgc
  have h1 := h.rd.lt
  have h2 := heap_lt h.cell
  have h3 := heap_lt h.zero
  have hs0 := h.chg.size
  have far' : ∀ q, Value.ownBlock (.slice A' (x.edges.length + 1) c') = some q → (q ≠ gr ∧ q ≠ gc ∧ q ≠ g0 ∧ w.heap.size ≤ q) ∧ VA.ownBlock ≠ some q := fun q hq => by
    rcases hat q hq with e | e
    · exact h.farB q e
    · exact ⟨⟨by omega, by omega, by omega, by omega⟩, fun hb => by have := h.ownA.lt hb; omega⟩
  have hc2 : Chg (fun k => k = gc) w7 (w7.setCell ⟨gc, 1, none⟩ (.slice A' (x.edges.length + 1) c')) := chg_set_g (Chg.refl _ _) 1 _
  refine ⟨A', _, c', w7, hrun, cell_of hcell 1 rfl, frozen_of hcell 1, ?_⟩
  refine ⟨(h.rd.chg2 hc fgr (fun q hq e => by have := (h.farB q e).1.2.2.2; omega)).chg2 hc2 n1 (fun q hq e => by omega), ?_, chg_keep hc2 (chg_keep hc h.zero fg0) (fun e => n3 e.symm), (h.ownA.chg hc (fun q hq e => (h.farB q e).2 hq)).chg hc2 (fun q hq e => (h.farA q hq).2.1 e), ho.chg hc2 (fun q hq e => (far' q hq).1.2.1 e), h.farA, far', (h.chg.trans hc (fun q hq e => by have := (h.farB q e).1.2.2.2; omega)).trans hc2 (fun q hq e => by omega), h.ne⟩
  have := heap_setCell hcell 1 (.slice A' (x.edges.length + 1) c')
  rw [this]
  rfl
/-- A score is stored. -/
theorem Ds.put {x' : Sol} (h : Ds w g0 gr gc s x VA VB W) (i : Nat) (v : Value) (hv : (#[VA, VB, .int .u64 x.mn, .int .u64 x.sm, .int .u64 x.hi, .int .u64 x.lo] : Array Value).setIfInBounds i v = #[VA, VB, .int .u64 x'.mn, .int .u64 x'.sm, .int .u64 x'.hi, .int .u64 x'.lo]) (hc' : x'.com = x.com) (he : x'.edges = x.edges) : Ds w g0 gr gc s x' VA VB (W.setCell ⟨gc, i, none⟩ v) := by
  obtain ⟨n1, n2, n3, n4, n5, n6⟩ := h.ne
  have hc2 : Chg (fun k => k = gc) W (W.setCell ⟨gc, i, none⟩ v) := chg_set_g (Chg.refl _ _) i _
  refine ⟨h.rd.chg2 hc2 n1 (fun k hk e => by omega), ?_, chg_keep hc2 h.zero (fun e => n3 e.symm), by rw [hc']; exact h.ownA.chg hc2 (fun q hq e => (h.farA q hq).2.1 e), by rw [he]; exact h.ownB.chg hc2 (fun q hq e => (h.farB q hq).1.2.1 e), h.farA, h.farB, h.chg.trans hc2 (fun q hq e => by omega), h.ne⟩
  have := heap_setCell h.cell i v
  rw [this, hv]
  rfl
end
end Go.Proofs.Ytcdbchdlenkdgaa
