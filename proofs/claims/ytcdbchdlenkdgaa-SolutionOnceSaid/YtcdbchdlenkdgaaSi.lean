/- Solutions: what the reference's Decode has in memory. -/
import Derived.Test.YtcdbchdlenkdgaaSh
set_option linter.unusedVariables false
set_option linter.unusedSimpArgs false
namespace Go.Proofs.Ytcdbchdlenkdgaa
open Go.RowKit Go.Ps

/-- What the reference's Decode has in memory. -/
structure Dx (w : World) (g0 gr gc : Nat) (s : List Int) (x : Sol) (VA VB : Value) (W : World) : Prop where
  rd : ReadsI W .u64 (some ⟨gr, 0, none⟩) s
  rlt : gr < W.heap.size
  cell : W.heap[gc]? = some (objS VA VB x 49)
  zero : W.heap[g0]? = some zeroS
  ownA : Own W 3 .i64 VA x.com
  ownB : OwnF W 74 3 fE VB x.edges
  farA : ∀ k, VA.ownBlock = some k → k ≠ gr ∧ k ≠ gc ∧ k ≠ g0 ∧ w.heap.size ≤ k
  farB : ∀ k, VB.ownBlock = some k → (k ≠ gr ∧ k ≠ gc ∧ k ≠ g0 ∧ w.heap.size ≤ k) ∧ VA.ownBlock ≠ some k
  chg : Chg (fun _ => False) w W
  ne : gr ≠ gc ∧ gr ≠ g0 ∧ gc ≠ g0 ∧ w.heap.size ≤ gr ∧ w.heap.size ≤ gc ∧ w.heap.size ≤ g0
section
variable {w W W' : World} {g0 gr gc : Nat} {s : List Int} {x : Sol} {VA VB : Value}
theorem Dx.grow (h : Dx w g0 gr gc s x VA VB W) (hc : Chg (fun _ => False) W W') : Dx w g0 gr gc s x VA VB W' :=
  ⟨h.rd.chg hc (fun _ _ => id), Nat.lt_of_lt_of_le h.rlt hc.size, chg_heap hc h.cell, chg_heap hc h.zero, h.ownA.chg hc (fun _ _ => id), h.ownB.chg hc (fun _ _ => id), h.farA, h.farB, chg_trans h.chg hc, h.ne⟩
theorem Dx.cells (h : Dx w g0 gr gc s x VA VB W) : W.cell? ⟨gc, 0, none⟩ = some VA ∧ W.cell? ⟨gc, 1, none⟩ = some VB ∧ W.cell? ⟨gc, 2, none⟩ = some (.int .u64 x.mn) ∧ W.cell? ⟨gc, 3, none⟩ = some (.int .u64 x.sm) ∧ W.cell? ⟨gc, 4, none⟩ = some (.int .u64 x.hi) ∧ W.cell? ⟨gc, 5, none⟩ = some (.int .u64 x.lo) := read6 h.cell
theorem Dx.frz (h : Dx w g0 gr gc s x VA VB W) (i : Nat) : W.frozen? ⟨gc, i, none⟩ = false := frozen_of h.cell i
/-- append to the members, and the store. -/
theorem Dx.pushA (h : Dx w g0 gr gc s x VA VB W) (n : Int) (hl : x.com.length ≤ 1000) :
    ∃ A' n' c' w7, (Builtin.append_ #[44, 44] 44 #[VA, .slice (some ⟨W.heap.size, 0, none⟩) 1 1]).run Try.prog (W.alloc (.cells #[.int .i64 n] 3)) = .ok (.slice A' n' c') w7 ∧ w7.cell? ⟨gc, 0, none⟩ = some VA ∧ w7.frozen? ⟨gc, 0, none⟩ = false ∧ ReadsI w7 .u64 (some ⟨gr, 0, none⟩) s ∧
      Dx w g0 gr gc s { x with com := x.com ++ [n] } (.slice A' n' c') VB (w7.setCell ⟨gc, 0, none⟩ (.slice A' n' c')) := by
  obtain ⟨A', c', w7, hrun, ho, hg, hat⟩ := h.ownA.append1W (P := Try.prog) 44 Try.underlying44 info3 n (by omega) (by omega)
  obtain ⟨n1, n2, n3, n4, n5, n6⟩ := h.ne
  have hc : Chg (fun k => VA.ownBlock = some k) W w7 := (Chg.refl _ W).grown hg (fun k hk _ => hk)
  have fgr : ¬ VA.ownBlock = some gr := fun e => (h.farA _ e).1 rfl
  have fgc : ¬ VA.ownBlock = some gc := fun e => (h.farA _ e).2.1 rfl
  have fg0 : ¬ VA.ownBlock = some g0 := fun e => (h.farA _ e).2.2.1 rfl
  have hcell := chg_keep hc h.cell fgc
  have h1 := h.rlt
  have h2 := heap_lt h.cell
  have h3 := heap_lt h.zero
  have hs0 := h.chg.size
  have far' : ∀ q, Value.ownBlock (.slice A' (x.com.length + 1) c') = some q → (q ≠ gr ∧ q ≠ gc ∧ q ≠ g0 ∧ w.heap.size ≤ q) ∧ VB.ownBlock ≠ some q := fun q hq => by
    rcases hat q hq with e | e
    · exact ⟨h.farA q e, fun hb => (h.farB q hb).2 e⟩
    · exact ⟨⟨by omega, by omega, by omega, by omega⟩, fun hb => by have := h.ownB.lt hb; omega⟩
  have hc2 : Chg (fun k => k = gc) w7 (w7.setCell ⟨gc, 0, none⟩ (.slice A' (x.com.length + 1) c')) := chg_set_g (Chg.refl _ _) 0 _
  refine ⟨A', _, c', w7, hrun, cell_of hcell 0 rfl, frozen_of hcell 0, h.rd.chg hc (fun a ha => by cases ha; exact fgr), ?_⟩
  refine ⟨(h.rd.chg hc (fun a ha => by cases ha; exact fgr)).chg hc2 (fun a ha => by cases ha; exact n1), Nat.lt_of_lt_of_le (Nat.lt_of_lt_of_le h.rlt hc.size) hc2.size, ?_, chg_keep hc2 (chg_keep hc h.zero fg0) (fun e => n3 e.symm), ho.chg hc2 (fun q hq e => (far' q hq).1.2.1 e), (h.ownB.chg hc (fun q hq e => (h.farB q hq).2 e)).chg hc2 (fun q hq e => (h.farB q hq).1.2.1 e), fun q hq => (far' q hq).1, fun q hq => ⟨(h.farB q hq).1, fun e => (far' q e).2 hq⟩, (h.chg.trans hc (fun q hq e => by have := (h.farA q e).2.2.2; omega)).trans hc2 (fun q hq e => by omega), h.ne⟩
  have := heap_setCell hcell 0 (.slice A' (x.com.length + 1) c')
  rw [this]
  rfl
/-- append to the edges, and the store. -/
theorem Dx.pushB (h : Dx w g0 gr gc s x VA VB W) (e : Int × Int × Int) (hl : x.edges.length ≤ 1000) :
    ∃ A' n' c' w7, (Builtin.append_ #[45, 45] 45 #[VB, .slice (some ⟨W.heap.size, 0, none⟩) 1 1]).run Try.prog (W.alloc (.cells #[.int .i64 e.1, .int .i64 e.2.1, .int .u64 e.2.2] 74)) = .ok (.slice A' n' c') w7 ∧ w7.cell? ⟨gc, 1, none⟩ = some VB ∧ w7.frozen? ⟨gc, 1, none⟩ = false ∧ ReadsI w7 .u64 (some ⟨gr, 0, none⟩) s ∧
      Dx w g0 gr gc s { x with edges := x.edges ++ [e] } VA (.slice A' n' c') (w7.setCell ⟨gc, 1, none⟩ (.slice A' n' c')) := by
  obtain ⟨A', c', w7, hrun, ho, hg, hat⟩ := h.ownB.append1 (P := Try.prog) layE 45 Try.underlying45 info74 rfl e (by omega) (by omega)
  obtain ⟨n1, n2, n3, n4, n5, n6⟩ := h.ne
  have hc : Chg (fun k => VB.ownBlock = some k) W w7 := (Chg.refl _ W).grown hg (fun k hk _ => hk)
  have fgr : ¬ VB.ownBlock = some gr := fun e => (h.farB _ e).1.1 rfl
  have fgc : ¬ VB.ownBlock = some gc := fun e => (h.farB _ e).1.2.1 rfl
  have fg0 : ¬ VB.ownBlock = some g0 := fun e => (h.farB _ e).1.2.2.1 rfl
  have hcell := chg_keep hc h.cell fgc
  have h1 := h.rlt
  have h2 := heap_lt h.cell
  have h3 := heap_lt h.zero
  have hs0 := h.chg.size
  have far' : ∀ q, Value.ownBlock (.slice A' (x.edges.length + 1) c') = some q → (q ≠ gr ∧ q ≠ gc ∧ q ≠ g0 ∧ w.heap.size ≤ q) ∧ VA.ownBlock ≠ some q := fun q hq => by
    rcases hat q hq with e | e
    · exact h.farB q e
    · exact ⟨⟨by omega, by omega, by omega, by omega⟩, fun hb => by have := h.ownA.lt hb; omega⟩
  have hc2 : Chg (fun k => k = gc) w7 (w7.setCell ⟨gc, 1, none⟩ (.slice A' (x.edges.length + 1) c')) := chg_set_g (Chg.refl _ _) 1 _
  refine ⟨A', _, c', w7, hrun, cell_of hcell 1 rfl, frozen_of hcell 1, h.rd.chg hc (fun a ha => by cases ha; exact fgr), ?_⟩
  refine ⟨(h.rd.chg hc (fun a ha => by cases ha; exact fgr)).chg hc2 (fun a ha => by cases ha; exact n1), Nat.lt_of_lt_of_le (Nat.lt_of_lt_of_le h.rlt hc.size) hc2.size, ?_, chg_keep hc2 (chg_keep hc h.zero fg0) (fun e => n3 e.symm), (h.ownA.chg hc (fun q hq e => (h.farB q e).2 hq)).chg hc2 (fun q hq e => (h.farA q hq).2.1 e), ho.chg hc2 (fun q hq e => (far' q hq).1.2.1 e), h.farA, far', (h.chg.trans hc (fun q hq e => by have := (h.farB q e).1.2.2.2; omega)).trans hc2 (fun q hq e => by omega), h.ne⟩
  have := heap_setCell hcell 1 (.slice A' (x.edges.length + 1) c')
  rw [this]
  rfl
/-- A score is stored. -/
theorem Dx.put {x' : Sol} (h : Dx w g0 gr gc s x VA VB W) (i : Nat) (v : Value) (hv : (#[VA, VB, .int .u64 x.mn, .int .u64 x.sm, .int .u64 x.hi, .int .u64 x.lo] : Array Value).setIfInBounds i v = #[VA, VB, .int .u64 x'.mn, .int .u64 x'.sm, .int .u64 x'.hi, .int .u64 x'.lo]) (hc' : x'.com = x.com) (he : x'.edges = x.edges) : Dx w g0 gr gc s x' VA VB (W.setCell ⟨gc, i, none⟩ v) := by
  obtain ⟨n1, n2, n3, n4, n5, n6⟩ := h.ne
  have hc2 : Chg (fun k => k = gc) W (W.setCell ⟨gc, i, none⟩ v) := chg_set_g (Chg.refl _ _) i _
  refine ⟨h.rd.chg hc2 (fun a ha => by cases ha; exact n1), Nat.lt_of_lt_of_le h.rlt hc2.size, ?_, chg_keep hc2 h.zero (fun e => n3 e.symm), by rw [hc']; exact h.ownA.chg hc2 (fun q hq e => (h.farA q hq).2.1 e), by rw [he]; exact h.ownB.chg hc2 (fun q hq e => (h.farB q hq).1.2.1 e), h.farA, h.farB, h.chg.trans hc2 (fun q hq e => by omega), h.ne⟩
  have := heap_setCell h.cell i v
  rw [this, hv]
  rfl
theorem Dx.form (h : Dx w g0 gr gc s x VA VB W) : ∃ A c B d, VA = .slice A x.com.length c ∧ VB = .slice B x.edges.length d ∧ ReadsI W .i64 A x.com ∧ Reads3 W .i64 .i64 .u64 B x.edges := by
  obtain ⟨A, c, hv, hra, hf, _⟩ := h.ownA.form
  obtain ⟨B, d, hvb, hd, hrb, hfb, _⟩ := h.ownB.form
  exact ⟨A, c, B, d, hv, hvb, hra, reads3_of (by have := h.ownB; rwa [hvb] at this)⟩
theorem Dx.bad (h : Dx w g0 gr gc s x VA VB W) {r : Sol × Int} {k : Int} (hr : r = (sol0, k)) : ∀ W', Chg (fun k => k = g0) W W' → SDecPost r w (.returned (.tuple #[sv sol0 none 0 none 0, .int .i64 k])) W' := fun W' hW' => by
  obtain ⟨n1, n2, n3, n4, n5, n6⟩ := h.ne
  subst hr
  exact ⟨none, 0, none, 0, rfl, fun h => absurd rfl h, fun h => absurd rfl h, Nat.le_refl _, Nat.le_refl _, h.chg.trans hW' (fun k hk e => by omega)⟩
theorem Dx.good (h : Dx w g0 gr gc s x VA VB W) {r : Sol × Int} (hr : r = (x, 0)) : ∃ A c B d, VA = .slice A x.com.length c ∧ VB = .slice B x.edges.length d ∧ ReadsI W .i64 A x.com ∧ Reads3 W .i64 .i64 .u64 B x.edges ∧ ∀ W', Chg (fun k => k = g0) W W' → SDecPost r w (.returned (.tuple #[sv x A c B d, .int .i64 0])) W' := by
  obtain ⟨A, c, hv, hra, hf, _⟩ := h.ownA.form
  obtain ⟨B, d, hvb, hd, hrb, hfb, _⟩ := h.ownB.form
  have hcl : x.com.length ≤ c := by
    rcases h.ownA.2 with ⟨hv', h0⟩ | ⟨g, cap, cur, hv', hbg, hgg, hnc, hcm, hcs, htake⟩ <;> rw [hv'] at hv <;> simp only [Value.slice.injEq] at hv <;> omega
  have h3 : Reads3 W .i64 .i64 .u64 B x.edges := reads3_of (by have := h.ownB; rwa [hvb] at this)
  obtain ⟨n1, n2, n3, n4, n5, n6⟩ := h.ne
  subst hr
  refine ⟨A, c, B, d, hv, hvb, hra, h3, fun W' hW' => ⟨A, c, B, d, rfl, ?_, ?_, hcl, hd, h.chg.trans hW' (fun k hk e => by omega)⟩⟩
  · exact hra.chg hW' (fun y hy e => (h.farA _ (hf y hy)).2.2.1 e)
  · exact h3.chg hW' (fun y hy e => (h.farB _ (hfb y hy)).1.2.2.1 e)
end
end Go.Proofs.Ytcdbchdlenkdgaa
