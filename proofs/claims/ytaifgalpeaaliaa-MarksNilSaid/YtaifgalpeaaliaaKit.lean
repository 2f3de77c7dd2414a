/- A small kit of my own: what a call changes (Chg), and maps keyed by int as lists of pairs. -/
import Derived.WalkKit
import Derived.ProofKit
import Derived.WalkSpells
import Derived.WalkLawsBesides
import Derived.Below
import Derived.Maps.AppendAt
import Derived.Deep.OwnRows
namespace Go.Ps
open Go.RowKit

/-- Beside the blocks in F (and new ones) nothing has changed. -/
structure Chg (F : Nat → Prop) (w w' : World) : Prop where
  os : w'.os = w.os
  tape : w'.tape = w.tape
  output : w'.output = w.output
  size : w.heap.size ≤ w'.heap.size
  block : ∀ k, k < w.heap.size → ¬ F k → w'.heap[k]? = w.heap[k]?

namespace Chg
variable {F G : Nat → Prop} {a b c w w' : World}
theorem refl (F : Nat → Prop) (w : World) : Chg F w w := ⟨rfl, rfl, rfl, Nat.le_refl _, fun _ _ _ => rfl⟩
theorem trans (h : Chg F a b) (k : Chg G b c) (hG : ∀ j, j < a.heap.size → G j → F j) : Chg F a c :=
  ⟨k.os.trans h.os, k.tape.trans h.tape, k.output.trans h.output, Nat.le_trans h.size k.size, fun j hj hF => (k.block j (Nat.lt_of_lt_of_le hj h.size) (fun g => hF (hG j hj g))).trans (h.block j hj hF)⟩
theorem mono (h : Chg F a b) (hG : ∀ j, j < a.heap.size → F j → G j) : Chg G a b := ⟨h.os, h.tape, h.output, h.size, fun j hj hg => h.block j hj (fun f => hg (hG j hj f))⟩
theorem drew (h : Chg F a w) : Chg F a w.drew := ⟨h.os, h.tape, h.output, h.size, h.block⟩
theorem drewN (h : Chg F a w) (n : Nat) : Chg F a (w.drewN n) := by
  induction n with
  | zero => exact h
  | succ n ih => exact ih.drew
theorem alloc (h : Chg F a w) (o : Obj) : Chg F a (w.alloc o) :=
  h.trans (G := F) ⟨rfl, rfl, rfl, by simp, fun k hk _ => Below.heap_alloc _ _ _ hk⟩ (fun _ _ h => h)
theorem setCell (h : Chg F a w) {p : Addr} (hp : p.block < a.heap.size → F p.block) (u : Value) : Chg F a (w.setCell p u) :=
  ⟨h.os, h.tape, h.output, by simp [World.setCell]; exact h.size, fun k hk hF => by
    by_cases e : k = p.block
    · subst e; exact absurd (hp hk) hF
    · exact (Below.heap_setCell _ _ _ _ e).trans (h.block k hk hF)⟩
theorem grown (h : Chg F a w) {row : Option Nat} (hg : w.grownBy w' row) (hr : ∀ k, row = some k → k < a.heap.size → F k) : Chg F a w' :=
  ⟨hg.os.trans h.os, hg.tape.trans h.tape, hg.output.trans h.output, Nat.le_trans h.size hg.size, fun k hk hF => (hg.block k (Nat.lt_of_lt_of_le hk h.size) (fun e => hF (hr k e.symm hk))).trans (h.block k hk hF)⟩
theorem ofBelow (h : Below w.heap.size w w') : Chg F w w' := ⟨h.os, h.tape, h.output, h.size, fun k hk _ => h.block k hk⟩
theorem below (h : Chg F w w') {B : Nat} (hF : ∀ k, k < B → k < w.heap.size ∧ ¬ F k) : Below B w w' := ⟨h.os, h.tape, h.output, h.size, fun k hk => h.block k (hF k hk).1 (hF k hk).2⟩
end Chg


theorem madeCells_rep (z : Value) (n : Nat) : madeCells #[z] n = (List.replicate n z).toArray := by
  apply Array.ext
  · simp [madeCells]
  · intro i h1 h2
    simp [madeCells, Nat.mod_one]

/-- make([]T, n), T of one cell. -/
theorem run_make_rep {P : Program} (t e : TypeId) (z : Value) (bytes : Nat) (ht : P.underlying t = some (.slice e)) (hinfo : (P.info? e).map (fun i => (i.zero, i.size, i.bytes)) = some (some z, 1, bytes)) (hz1 : z.cells = #[z])
    (kl kc : IntKind) (n : Int) (h0 : 0 ≤ n) (hbytes : bytes * n ≤ 281474976710656) (h63 : n ≤ 9223372036854775807) (w : World) :
    (Instr.makeSlice t (.int kl n) (.int kc n)).run P w = .ok (.slice (some ⟨w.heap.size, 0, none⟩) n.toNat n.toNat) (w.alloc (.cells (List.replicate n.toNat z).toArray e)) := by
  obtain ⟨m, rfl⟩ : ∃ m : Nat, n = m := ⟨n.toNat, by omega⟩
  have hb : bytes * m ≤ 281474976710656 := by
    have h : ((bytes * m : Nat) : Int) ≤ 281474976710656 := by rw [Int.natCast_mul]; exact hbytes
    omega
  rw [run_make_row' t e z bytes ht hinfo hz1 kl kc m hb (by omega) w, madeCells_rep]
  rw [Int.toNat_natCast]

theorem heap_lt {w : World} {b : Nat} {o : Obj} (h : w.heap[b]? = some o) : b < w.heap.size := (Array.getElem?_eq_some_iff.1 h).1
theorem cell_of {w : World} {b : Nat} {cs : Array Value} {t : TypeId} {fr : Nat × Nat} (h : w.heap[b]? = some (.cells cs t fr)) (j : Nat) {v : Value} (hv : cs[j]? = some v) : w.cell? ⟨b, j, none⟩ = some v := by
  rw [cell_of_row w b j cs t fr h, hv]
theorem frozen_of {w : World} {b : Nat} {cs : Array Value} {t : TypeId} (h : w.heap[b]? = some (.cells cs t (0, 0))) (j : Nat) : w.frozen? ⟨b, j, none⟩ = false := by
  simp [World.frozen?, h]
theorem heap_setCell {w : World} {b : Nat} {cs : Array Value} {t : TypeId} {fr : Nat × Nat} (h : w.heap[b]? = some (.cells cs t fr)) (j : Nat) (v : Value) : (w.setCell ⟨b, j, none⟩ v).heap[b]? = some (.cells (cs.setIfInBounds j v) t fr) := by
  simp [World.setCell, Array.getElem?_modify, h]
theorem heap_setCell_ne {w : World} {b c j : Nat} (hne : c ≠ b) (v : Value) : (w.setCell ⟨b, j, none⟩ v).heap[c]? = w.heap[c]? := Below.heap_setCell _ _ _ _ hne
theorem heap_alloc_at (w : World) (o : Obj) : (w.alloc o).heap[w.heap.size]? = some o := heap_alloc_new w o
theorem heap_alloc_ne {w : World} {o : Obj} {k : Nat} {x : Obj} (h : w.heap[k]? = some x) : (w.alloc o).heap[k]? = some x := by rw [Below.heap_alloc _ _ _ (heap_lt h)]; exact h


/-- A slice over numbers that can be read: a: where it begins. -/
def ReadsI (w : World) (q : IntKind) (A : Option Addr) (l : List Int) : Prop := l ≠ [] → ∃ a, A = some a ∧ ∀ i, i < l.length → w.cell? (a.add i) = some (.int q (l.getD i 0))
theorem ReadsI.none {w : World} {q : IntKind} {l : List Int} (h : ReadsI w q none l) : l = [] := by
  by_cases e : l = []
  · exact e
  · obtain ⟨a, ha, _⟩ := h e
    cases ha
theorem block_add (a : Addr) (i : Nat) : (a.add i).block = a.block := by unfold Addr.add; split <;> rfl
theorem ReadsI.mem {w : World} {q : IntKind} {a : Addr} {l : List Int} (h : ReadsI w q (some a) l) : ∀ i, i < l.length → w.cell? (a.add i) = some (.int q (l.getD i 0)) := by
  intro i hi
  obtain ⟨a', ha, hc⟩ := h (by intro e; subst e; simp at hi)
  cases ha
  exact hc i hi
theorem ReadsI.chg {w w' : World} {q : IntKind} {A : Option Addr} {l : List Int} (h : ReadsI w q A l) {F : Nat → Prop} (hc : Chg F w w') (hF : ∀ a, A = some a → ¬ F a.block) : ReadsI w' q A l := by
  intro hne
  obtain ⟨a, ha, hcell⟩ := h hne
  refine ⟨a, ha, fun i hi => ?_⟩
  rw [World.cell?_of_block (w := w)]
  · exact hcell i hi
  · refine hc.block _ (World.block_lt_of_cell? w _ (hcell i hi)) ?_
    rw [block_add]
    exact hF a ha
theorem ReadsI.alloc {w : World} {q : IntKind} {A : Option Addr} {l : List Int} (h : ReadsI w q A l) (o : Obj) : ReadsI (w.alloc o) q A l :=
  h.chg ((Chg.refl (fun _ => False) w).alloc o) (fun _ _ => id)
theorem ReadsI.below {w w' : World} {q : IntKind} {A : Option Addr} {l : List Int} (h : ReadsI w q A l) (hb : Below w.heap.size w w') : ReadsI w' q A l :=
  h.chg (Chg.ofBelow (F := fun _ => False) hb) (fun _ _ => id)
theorem ReadsI.cells {w : World} {q : IntKind} {a : Addr} {l : List Int} (h : ReadsI w q (some a) l) : ∀ j u, (l.map (Value.int q))[j]? = some u → w.cell? (a.add j) = some u := by
  intro j u hu
  simp only [List.getElem?_map, Option.map_eq_some_iff] at hu
  obtain ⟨x, hx, rfl⟩ := hu
  have hlt := (List.getElem?_eq_some_iff.1 hx).1
  rw [h.mem j hlt, List.getD_eq_getElem?_getD, hx]
  rfl
theorem add_zero (g i : Nat) : (⟨g, 0, Option.none⟩ : Addr).add i = ⟨g, i, Option.none⟩ := by unfold Addr.add; split <;> simp_all
theorem ReadsI.of_block {w : World} {q : IntKind} {g : Nat} {l : List Int} {t : TypeId} {fr : Nat × Nat} (h : w.heap[g]? = some (.cells (l.map (Value.int q)).toArray t fr)) : ReadsI w q (some ⟨g, 0, Option.none⟩) l := by
  intro _
  refine ⟨_, rfl, fun i hi => ?_⟩
  rw [add_zero]
  refine cell_of h i ?_
  simp [hi]
/-- What the call owns can be read. -/
theorem ReadsI.of_own {w : World} {q : IntKind} {base : Nat} {e : TypeId} {v : Value} {l : List Int} (h : w.ownsRow base e 1 v l.length (l.map (Value.int q))) : ∃ A c, v = .slice A l.length c ∧ ReadsI w q A l ∧ ∀ a, A = some a → base ≤ a.block := by
  rcases h.2 with ⟨rfl, h0⟩ | ⟨g, cap, cur, rfl, hbg, hg, hnc, hcm, hcs, htake⟩
  · exact ⟨Option.none, 0, by rw [h0], fun hne => absurd (List.eq_nil_of_length_eq_zero h0) hne, fun a ha => by cases ha⟩
  · refine ⟨some ⟨g, 0, Option.none⟩, cap, rfl, fun _ => ⟨_, rfl, fun i hi => ?_⟩, fun a ha => by cases ha; exact hbg⟩
    rw [add_zero]
    refine cell_of hg i ?_
    have h2 : (cur.toList.take (l.length * 1))[i]? = (l.map (Value.int q))[i]? := by rw [htake]
    rw [List.getElem?_take] at h2
    rw [if_pos (by omega)] at h2
    rw [Array.getElem?_toList] at h2
    rw [h2]
    simp [hi]

end Go.Ps
