/- A small kit of my own: what a call changes (Chg), and maps keyed by int as lists of pairs. -/
import Derived.WalkKit
import Derived.ProofKit
import Derived.WalkSpells
import Derived.WalkLawsBesides
import Derived.Below
import Derived.Maps.Own
import Derived.SizedLaws
import Derived.Lib.Hide
import Derived.Lib.SmallJoins
import Derived.Deep.Slices
import Derived.Deep.Strs
import Derived.Laws.BytesString
import Derived.Laws.Strings
import Derived.Lib.BufferRead
import Derived.Laws.CopyOwn
import Derived.ChangeSlices
import Derived.Maps.AppendAt
import Derived.Deep.OwnRows
set_option linter.unusedVariables false
set_option linter.unusedSimpArgs false
namespace Go.Ps
open Go.RowKit

/-- Beside the blocks in F (and new ones) nothing has changed. -/
structure Chg (F : Nat → Prop) (w w' : World) : Prop where
  os : w'.os = w.os
  tape : w'.tape = w.tape
  output : w'.output = w.output
  size : w.heap.size ≤ w'.heap.size
  block : ∀ k, k < w.heap.size → ¬ F k → w'.heap[k]? = w.heap[k]?

namespace Chg
variable {F G : Nat → Prop} {a b c w w' : World}
theorem refl (F : Nat → Prop) (w : World) : Chg F w w := ⟨rfl, rfl, rfl, Nat.le_refl _, fun _ _ _ => rfl⟩
theorem trans (h : Chg F a b) (k : Chg G b c) (hG : ∀ j, j < a.heap.size → G j → F j) : Chg F a c :=
  ⟨k.os.trans h.os, k.tape.trans h.tape, k.output.trans h.output, Nat.le_trans h.size k.size, fun j hj hF => (k.block j (Nat.lt_of_lt_of_le hj h.size) (fun g => hF (hG j hj g))).trans (h.block j hj hF)⟩
theorem mono (h : Chg F a b) (hG : ∀ j, j < a.heap.size → F j → G j) : Chg G a b := ⟨h.os, h.tape, h.output, h.size, fun j hj hg => h.block j hj (fun f => hg (hG j hj f))⟩
theorem drew (h : Chg F a w) : Chg F a w.drew := ⟨h.os, h.tape, h.output, h.size, h.block⟩
theorem drewN (h : Chg F a w) (n : Nat) : Chg F a (w.drewN n) := by
  induction n with
  | zero => exact h
  | succ n ih => exact ih.drew
theorem alloc (h : Chg F a w) (o : Obj) : Chg F a (w.alloc o) :=
  h.trans (G := F) ⟨rfl, rfl, rfl, by simp, fun k hk _ => Below.heap_alloc _ _ _ hk⟩ (fun _ _ h => h)
theorem setCell (h : Chg F a w) {p : Addr} (hp : p.block < a.heap.size → F p.block) (u : Value) : Chg F a (w.setCell p u) :=
  ⟨h.os, h.tape, h.output, by simp [World.setCell]; exact h.size, fun k hk hF => by
    by_cases e : k = p.block
    · subst e; exact absurd (hp hk) hF
    · exact (Below.heap_setCell _ _ _ _ e).trans (h.block k hk hF)⟩
theorem grown (h : Chg F a w) {row : Option Nat} (hg : w.grownBy w' row) (hr : ∀ k, row = some k → k < a.heap.size → F k) : Chg F a w' :=
  ⟨hg.os.trans h.os, hg.tape.trans h.tape, hg.output.trans h.output, Nat.le_trans h.size hg.size, fun k hk hF => (hg.block k (Nat.lt_of_lt_of_le hk h.size) (fun e => hF (hr k e.symm hk))).trans (h.block k hk hF)⟩
theorem ofBelow (h : Below w.heap.size w w') : Chg F w w' := ⟨h.os, h.tape, h.output, h.size, fun k hk _ => h.block k hk⟩
theorem below (h : Chg F w w') {B : Nat} (hF : ∀ k, k < B → k < w.heap.size ∧ ¬ F k) : Below B w w' := ⟨h.os, h.tape, h.output, h.size, fun k hk => h.block k (hF k hk).1 (hF k hk).2⟩
end Chg


theorem madeCells_rep (z : Value) (n : Nat) : madeCells #[z] n = (List.replicate n z).toArray := by
  apply Array.ext
  · simp [madeCells]
  · intro i h1 h2
    simp [madeCells, Nat.mod_one]

/-- make([]T, n), T of one cell. -/
theorem run_make_rep {P : Program} (t e : TypeId) (z : Value) (bytes : Nat) (ht : P.underlying t = some (.slice e)) (hinfo : (P.info? e).map (fun i => (i.zero, i.size, i.bytes)) = some (some z, 1, bytes)) (hz1 : z.cells = #[z])
    (kl kc : IntKind) (n : Int) (h0 : 0 ≤ n) (hbytes : bytes * n ≤ 281474976710656) (h63 : n ≤ 9223372036854775807) (w : World) :
    (Instr.makeSlice t (.int kl n) (.int kc n)).run P w = .ok (.slice (some ⟨w.heap.size, 0, none⟩) n.toNat n.toNat) (w.alloc (.cells (List.replicate n.toNat z).toArray e)) := by
  obtain ⟨m, rfl⟩ : ∃ m : Nat, n = m := ⟨n.toNat, by omega⟩
  have hb : bytes * m ≤ 281474976710656 := by
    have h : ((bytes * m : Nat) : Int) ≤ 281474976710656 := by rw [Int.natCast_mul]; exact hbytes
    omega
  rw [run_make_row' t e z bytes ht hinfo hz1 kl kc m hb (by omega) w, madeCells_rep]
  rw [Int.toNat_natCast]

theorem heap_lt {w : World} {b : Nat} {o : Obj} (h : w.heap[b]? = some o) : b < w.heap.size := (Array.getElem?_eq_some_iff.1 h).1
theorem cell_of {w : World} {b : Nat} {cs : Array Value} {t : TypeId} {fr : Nat × Nat} (h : w.heap[b]? = some (.cells cs t fr)) (j : Nat) {v : Value} (hv : cs[j]? = some v) : w.cell? ⟨b, j, none⟩ = some v := by
  rw [cell_of_row w b j cs t fr h, hv]
theorem frozen_of {w : World} {b : Nat} {cs : Array Value} {t : TypeId} (h : w.heap[b]? = some (.cells cs t (0, 0))) (j : Nat) : w.frozen? ⟨b, j, none⟩ = false := by
  simp [World.frozen?, h]
theorem heap_setCell {w : World} {b : Nat} {cs : Array Value} {t : TypeId} {fr : Nat × Nat} (h : w.heap[b]? = some (.cells cs t fr)) (j : Nat) (v : Value) : (w.setCell ⟨b, j, none⟩ v).heap[b]? = some (.cells (cs.setIfInBounds j v) t fr) := by
  simp [World.setCell, Array.getElem?_modify, h]
theorem heap_setCell_ne {w : World} {b c j : Nat} (hne : c ≠ b) (v : Value) : (w.setCell ⟨b, j, none⟩ v).heap[c]? = w.heap[c]? := Below.heap_setCell _ _ _ _ hne
theorem heap_alloc_at (w : World) (o : Obj) : (w.alloc o).heap[w.heap.size]? = some o := heap_alloc_new w o
theorem heap_alloc_ne {w : World} {o : Obj} {k : Nat} {x : Obj} (h : w.heap[k]? = some x) : (w.alloc o).heap[k]? = some x := by rw [Below.heap_alloc _ _ _ (heap_lt h)]; exact h


/-- A slice over numbers that can be read: a: where it begins. -/
def ReadsI (w : World) (q : IntKind) (A : Option Addr) (l : List Int) : Prop := l ≠ [] → ∃ a, A = some a ∧ ∀ i, i < l.length → w.cell? (a.add i) = some (.int q (l.getD i 0))
theorem ReadsI.none {w : World} {q : IntKind} {l : List Int} (h : ReadsI w q none l) : l = [] := by
  by_cases e : l = []
  · exact e
  · obtain ⟨a, ha, _⟩ := h e
    cases ha
theorem block_add (a : Addr) (i : Nat) : (a.add i).block = a.block := by unfold Addr.add; split <;> rfl
theorem ReadsI.mem {w : World} {q : IntKind} {a : Addr} {l : List Int} (h : ReadsI w q (some a) l) : ∀ i, i < l.length → w.cell? (a.add i) = some (.int q (l.getD i 0)) := by
  intro i hi
  obtain ⟨a', ha, hc⟩ := h (by intro e; subst e; simp at hi)
  cases ha
  exact hc i hi
theorem ReadsI.chg {w w' : World} {q : IntKind} {A : Option Addr} {l : List Int} (h : ReadsI w q A l) {F : Nat → Prop} (hc : Chg F w w') (hF : ∀ a, A = some a → ¬ F a.block) : ReadsI w' q A l := by
  intro hne
  obtain ⟨a, ha, hcell⟩ := h hne
  refine ⟨a, ha, fun i hi => ?_⟩
  rw [World.cell?_of_block (w := w)]
  · exact hcell i hi
  · refine hc.block _ (World.block_lt_of_cell? w _ (hcell i hi)) ?_
    rw [block_add]
    exact hF a ha
theorem ReadsI.alloc {w : World} {q : IntKind} {A : Option Addr} {l : List Int} (h : ReadsI w q A l) (o : Obj) : ReadsI (w.alloc o) q A l :=
  h.chg ((Chg.refl (fun _ => False) w).alloc o) (fun _ _ => id)
theorem ReadsI.below {w w' : World} {q : IntKind} {A : Option Addr} {l : List Int} (h : ReadsI w q A l) (hb : Below w.heap.size w w') : ReadsI w' q A l :=
  h.chg (Chg.ofBelow (F := fun _ => False) hb) (fun _ _ => id)
theorem ReadsI.cells {w : World} {q : IntKind} {a : Addr} {l : List Int} (h : ReadsI w q (some a) l) : ∀ j u, (l.map (Value.int q))[j]? = some u → w.cell? (a.add j) = some u := by
  intro j u hu
  simp only [List.getElem?_map, Option.map_eq_some_iff] at hu
  obtain ⟨x, hx, rfl⟩ := hu
  have hlt := (List.getElem?_eq_some_iff.1 hx).1
  rw [h.mem j hlt, List.getD_eq_getElem?_getD, hx]
  rfl
theorem add_zero (g i : Nat) : (⟨g, 0, Option.none⟩ : Addr).add i = ⟨g, i, Option.none⟩ := by unfold Addr.add; split <;> simp_all
theorem ReadsI.of_block {w : World} {q : IntKind} {g : Nat} {l : List Int} {t : TypeId} {fr : Nat × Nat} (h : w.heap[g]? = some (.cells (l.map (Value.int q)).toArray t fr)) : ReadsI w q (some ⟨g, 0, Option.none⟩) l := by
  intro _
  refine ⟨_, rfl, fun i hi => ?_⟩
  rw [add_zero]
  refine cell_of h i ?_
  simp [hi]
/-- What the call owns can be read. -/
theorem ReadsI.of_own {w : World} {q : IntKind} {base : Nat} {e : TypeId} {v : Value} {l : List Int} (h : w.ownsRow base e 1 v l.length (l.map (Value.int q))) : ∃ A c, v = .slice A l.length c ∧ ReadsI w q A l ∧ ∀ a, A = some a → base ≤ a.block := by
  rcases h.2 with ⟨rfl, h0⟩ | ⟨g, cap, cur, rfl, hbg, hg, hnc, hcm, hcs, htake⟩
  · exact ⟨Option.none, 0, by rw [h0], fun hne => absurd (List.eq_nil_of_length_eq_zero h0) hne, fun a ha => by cases ha⟩
  · refine ⟨some ⟨g, 0, Option.none⟩, cap, rfl, fun _ => ⟨_, rfl, fun i hi => ?_⟩, fun a ha => by cases ha; exact hbg⟩
    rw [add_zero]
    refine cell_of hg i ?_
    have h2 : (cur.toList.take (l.length * 1))[i]? = (l.map (Value.int q))[i]? := by rw [htake]
    rw [List.getElem?_take] at h2
    rw [if_pos (by omega)] at h2
    rw [Array.getElem?_toList] at h2
    rw [h2]
    simp [hi]


/-! ### maps keyed by int, as lists of pairs -/
namespace IM
def find (k : Int) : List (Int × Value) → Nat → Option (Nat × Value)
  | [], _ => none
  | p :: t, i => if k == p.1 then some (i, p.2) else find k t (i + 1)
def get (ps : List (Int × Value)) (k : Int) (z : Value) : Value := match find k ps 0 with | some (_, v) => v | none => z
def has (ps : List (Int × Value)) (k : Int) : Bool := (find k ps 0).isSome
def upd (k : Int) (v : Value) : List (Int × Value) → List (Int × Value)
  | [] => [(k, v)]
  | p :: t => if k == p.1 then (p.1, v) :: t else p :: upd k v t
def del (k : Int) : List (Int × Value) → List (Int × Value)
  | [] => []
  | p :: t => if k == p.1 then t else p :: del k t
def ent (e : MapEntry) : Value × Value := (e.key, e.val)
def prs (p : Int × Value) : Value × Value := (.int .i64 p.1, p.2)

theorem findNow_find (k : Int) : ∀ (es : List MapEntry) (ps : List (Int × Value)) (i : Nat), es.map ent = ps.map prs → Instr.findNow (.int .i64) (.int .i64 k) es i = some (find k ps i)
  | [], [], _, _ => rfl
  | [], _ :: _, _, h => by cases h
  | _ :: _, [], _, h => by cases h
  | e :: es, p :: ps, i, h => by
    simp only [List.map_cons, List.cons.injEq] at h
    obtain ⟨h1, h2⟩ := h
    simp only [ent, prs, Prod.mk.injEq] at h1
    unfold Instr.findNow
    rw [h1.1]
    simp only [Instr.sameNow, if_true, find]
    by_cases hk : k = p.1
    · subst hk
      simp [h1.2]
    · have hb : (k == p.1) = false := by simpa using hk
      rw [hb]
      simpa using findNow_find k es ps (i + 1) h2
theorem find_upd (k : Int) (v : Value) : ∀ (ps : List (Int × Value)) (i : Nat), (find k ps i = none → upd k v ps = ps ++ [(k, v)]) ∧ (∀ j x, find k ps i = some (j, x) → i ≤ j ∧ ∃ p, ps[j - i]? = some p ∧ k = p.1 ∧ x = p.2 ∧ upd k v ps = ps.set (j - i) (p.1, v))
  | [], i => ⟨fun _ => rfl, fun j x h => by cases h⟩
  | p :: ps, i => by
    obtain ⟨h1, h2⟩ := find_upd k v ps (i + 1)
    simp only [find, upd]
    by_cases hk : k = p.1
    · subst hk
      simp only [beq_self_eq_true, if_true]
      refine ⟨fun h => (by cases h), fun j x h => ?_⟩
      simp only [Option.some.injEq, Prod.mk.injEq] at h
      obtain ⟨rfl, rfl⟩ := h
      exact ⟨Nat.le_refl _, p, by simp, rfl, rfl, by simp⟩
    · have hb : (k == p.1) = false := by simpa using hk
      simp only [hb, Bool.false_eq_true, if_false]
      refine ⟨fun h => by rw [h1 h]; rfl, fun j x h => ?_⟩
      obtain ⟨hj, q, hq, hq1, hq2, hq3⟩ := h2 j x h
      have e : j - i = (j - (i + 1)) + 1 := by omega
      refine ⟨by omega, q, by rw [e]; simpa using hq, hq1, hq2, ?_⟩
      rw [e, List.set_cons_succ, hq3]
theorem find_del (k : Int) : ∀ (ps : List (Int × Value)) (i : Nat), (find k ps i = none → del k ps = ps) ∧ (∀ j x, find k ps i = some (j, x) → i ≤ j ∧ j - i < ps.length ∧ del k ps = ps.eraseIdx (j - i))
  | [], i => ⟨fun _ => rfl, fun j x h => by cases h⟩
  | p :: ps, i => by
    obtain ⟨h1, h2⟩ := find_del k ps (i + 1)
    simp only [find, del]
    by_cases hk : k = p.1
    · subst hk
      simp only [beq_self_eq_true, if_true]
      refine ⟨fun h => (by cases h), fun j x h => ?_⟩
      simp only [Option.some.injEq, Prod.mk.injEq] at h
      obtain ⟨rfl, rfl⟩ := h
      exact ⟨Nat.le_refl _, by simp, by simp⟩
    · have hb : (k == p.1) = false := by simpa using hk
      simp only [hb, Bool.false_eq_true, if_false]
      refine ⟨fun h => by rw [h1 h], fun j x h => ?_⟩
      obtain ⟨hj, hq, hq3⟩ := h2 j x h
      have e : j - i = (j - (i + 1)) + 1 := by omega
      refine ⟨by omega, by simp; omega, ?_⟩
      rw [e, List.eraseIdx_cons_succ, hq3]

/-! plain facts -/
theorem find_shift (k : Int) : ∀ (ps : List (Int × Value)) (i j : Nat), (find k ps i).map Prod.snd = (find k ps j).map Prod.snd
  | [], _, _ => rfl
  | p :: ps, i, j => by
    simp only [find]
    split
    · rfl
    · exact find_shift k ps _ _
theorem get_nil (k : Int) (z : Value) : get [] k z = z := rfl
theorem has_nil (k : Int) : has [] k = false := rfl
theorem get_eq (ps : List (Int × Value)) (k : Int) (z : Value) (i : Nat) : get ps k z = ((find k ps i).map Prod.snd).getD z := by
  rw [find_shift k ps i 0]
  unfold get
  cases find k ps 0 <;> rfl
theorem has_eq (ps : List (Int × Value)) (k : Int) (i : Nat) : has ps k = ((find k ps i).map Prod.snd).isSome := by
  rw [find_shift k ps i 0]
  unfold has
  cases find k ps 0 <;> rfl
theorem get_cons (p : Int × Value) (ps : List (Int × Value)) (k : Int) (z : Value) : get (p :: ps) k z = if k = p.1 then p.2 else get ps k z := by
  rw [get_eq ps k z 1]
  unfold get
  simp only [find]
  by_cases h : k = p.1
  · simp [h]
  · have hb : (k == p.1) = false := by simpa using h
    simp only [hb, h, Bool.false_eq_true, if_false]
    cases find k ps 1 <;> rfl
theorem has_cons (p : Int × Value) (ps : List (Int × Value)) (k : Int) : has (p :: ps) k = (decide (k = p.1) || has ps k) := by
  rw [has_eq ps k 1]
  unfold has
  simp only [find]
  by_cases h : k = p.1
  · simp [h]
  · have hb : (k == p.1) = false := by simpa using h
    simp only [hb, h, Bool.false_eq_true, if_false]
    simp
theorem get_upd (k : Int) (v : Value) : ∀ (ps : List (Int × Value)) (j : Int) (z : Value), get (upd k v ps) j z = if j = k then v else get ps j z
  | [], j, z => by simp [upd, get_cons, get_nil]
  | p :: ps, j, z => by
    simp only [upd]
    by_cases hk : k = p.1
    · subst hk
      simp only [beq_self_eq_true, if_true, get_cons]
      split <;> rfl
    · have hb : (k == p.1) = false := by simpa using hk
      simp only [hb, Bool.false_eq_true, if_false, get_cons, get_upd k v ps j z]
      by_cases hj : j = p.1
      · simp only [hj, if_true]
        rw [if_neg (fun e => hk e.symm)]
      · simp [hj]
theorem has_upd (k : Int) (v : Value) : ∀ (ps : List (Int × Value)) (j : Int), has (upd k v ps) j = (decide (j = k) || has ps j)
  | [], j => by simp [upd, has_cons]
  | p :: ps, j => by
    simp only [upd]
    by_cases hk : k = p.1
    · subst hk
      simp only [beq_self_eq_true, if_true, has_cons]
      rw [← Bool.or_assoc, Bool.or_self]
    · have hb : (k == p.1) = false := by simpa using hk
      simp only [hb, Bool.false_eq_true, if_false, has_cons, has_upd k v ps j]
      rw [← Bool.or_assoc, ← Bool.or_assoc, Bool.or_comm (decide (j = p.1))]
theorem length_upd (k : Int) (v : Value) : ∀ (ps : List (Int × Value)), (upd k v ps).length = if has ps k then ps.length else ps.length + 1
  | [] => by simp [upd, has_nil]
  | p :: ps => by
    simp only [upd]
    by_cases hk : k = p.1
    · subst hk
      simp [has_cons]
    · have hb : (k == p.1) = false := by simpa using hk
      simp only [hb, Bool.false_eq_true, if_false, has_cons, List.length_cons, length_upd k v ps, hk, decide_false, Bool.false_or]
      split <;> rfl
theorem get_of_not_has : ∀ (ps : List (Int × Value)) (k : Int) (z : Value), has ps k = false → get ps k z = z
  | [], _, _, _ => rfl
  | p :: ps, k, z, h => by
    rw [has_cons, Bool.or_eq_false_iff] at h
    rw [get_cons, if_neg (by simpa using h.1)]
    exact get_of_not_has ps k z h.2
end IM

/-- Block B is a map that holds these pairs. -/
def IMap (w : World) (B : Nat) (ps : List (Int × Value)) : Prop := ∃ es clock, w.heap[B]? = some (.map es clock) ∧ es.toList.map IM.ent = ps.map IM.prs
theorem IMap.lt {w : World} {B : Nat} {ps : List (Int × Value)} (h : IMap w B ps) : B < w.heap.size := by obtain ⟨es, c, h, _⟩ := h; exact heap_lt h
theorem IMap.chg {w w' : World} {B : Nat} {ps : List (Int × Value)} (h : IMap w B ps) {F : Nat → Prop} (hc : Chg F w w') (hF : ¬ F B) : IMap w' B ps := by
  obtain ⟨es, c, h, h2⟩ := h
  exact ⟨es, c, (hc.block B (heap_lt h) hF).trans h, h2⟩
theorem IMap.made (w : World) : IMap (w.alloc (.map #[] 0)) w.heap.size [] := ⟨#[], 0, heap_alloc_at _ _, rfl⟩
section
variable {P : Program} {t k e : TypeId} {w : World} {B : Nat} {ps : List (Int × Value)}
theorem IMap.look (h : IMap w B ps) (ht : P.underlying t = some (.map k e)) (hk : P.underlying k = some (.int .i64)) {z : Value} (hz : (zeroValue e).run P w = .ok z w) (a : Int) (c : Bool) :
    (Instr.lookup t (.map (some B)) (.int .i64 a) c).run P w = .ok (if c then .tuple #[IM.get ps a z, .bool (IM.has ps a)] else IM.get ps a z) w := by
  obtain ⟨es, cl, hb, hes⟩ := h
  have hf := IM.findNow_find a es.toList ps 0 hes
  have hck := fun em => MapKept.run_checkKey (P := P) (w := w) hk (k := .int .i64 a) (d := .int .i64) (by trivial) em 9999
  have hfk : (Instr.findKey k (.int .i64 a) es.toList).run P w = .ok (IM.find a ps 0) w := by
    simp [Instr.findKey, run_underlying hk, hf]
  unfold IM.get IM.has
  cases hfi : IM.find a ps 0 with
  | none => simp [Instr.lookup, run_underlying ht, MapKept.run_getObj_map hb, hck, hfk, hfi, hz, Result.andThen]
  | some r => simp [Instr.lookup, run_underlying ht, MapKept.run_getObj_map hb, hck, hfk, hfi, Result.andThen]
theorem IMap.store (h : IMap w B ps) (ht : P.underlying t = some (.map k e)) (hk : P.underlying k = some (.int .i64)) (a : Int) (v : Value) :
    ∃ w', (Instr.mapUpdate t (.map (some B)) (.int .i64 a) v).run P w = .ok () w' ∧ IMap w' B (IM.upd a v ps) ∧ w.grownBy w' (some B) := by
  obtain ⟨es, cl, hb, hes⟩ := h
  have hf := IM.findNow_find a es.toList ps 0 hes
  have hck := fun em => MapKept.run_checkKey (P := P) (w := w) hk (k := .int .i64 a) (d := .int .i64) (by trivial) em 9999
  have hfk : (Instr.findKey k (.int .i64 a) es.toList).run P w = .ok (IM.find a ps 0) w := by
    simp [Instr.findKey, run_underlying hk, hf]
  have hkts := MapKept.run_keyThatStays (P := P) (w := w) (k := .int .i64 a) (d := .int .i64) (by trivial)
  have hlt := heap_lt hb
  have hset : ∀ o, ({ w with heap := w.heap.setIfInBounds B o } : World).heap[B]? = some o := fun o => by simp [hlt]
  have hgrow : ∀ o, w.grownBy ({ w with heap := w.heap.setIfInBounds B o } : World) (some B) := fun o => ⟨rfl, rfl, rfl, by simp, fun j _ hj => by
    have hne : ¬ B = j := fun e => hj (by rw [e])
    simp [Array.getElem?_setIfInBounds, hne]⟩
  obtain ⟨u1, u2⟩ := IM.find_upd a v ps 0
  cases hfi : IM.find a ps 0 with
  | none =>
    refine ⟨_, by simp [Instr.mapUpdate, run_underlying ht, MapKept.run_getObj_map hb, hck, hfk, hfi, MapKept.run_setObj_map _ hb, Result.andThen]; rfl, ⟨_, _, hset _, ?_⟩, hgrow _⟩
    rw [u1 hfi]
    simp [hes, IM.ent, IM.prs]
  | some r =>
    obtain ⟨j, x⟩ := r
    obtain ⟨_, q, hq, hq1, hq2, hq3⟩ := u2 j x hfi
    simp only [Nat.sub_zero] at hq hq3
    have hj2 : (es.toList.map IM.ent)[j]? = some (IM.prs q) := by rw [hes]; simp [hq]
    simp only [List.getElem?_map, Option.map_eq_some_iff] at hj2
    obtain ⟨e0, he0, he1⟩ := hj2
    have hj : es[j]? = some e0 := by simpa using he0
    have hkey : e0.key = .int .i64 a := by
      have := congrArg Prod.fst he1
      simpa [IM.ent, IM.prs, hq1] using this
    refine ⟨_, by simp [Instr.mapUpdate, run_underlying ht, MapKept.run_getObj_map hb, hck, hfk, hfi, hj, hkey, hkts, MapKept.run_setObj_map _ hb, Result.andThen]; rfl, ⟨_, _, hset _, ?_⟩, hgrow _⟩
    rw [hq3, Array.toList_modify, List.map_set, ← hes]
    have hjl : j < es.toList.length := (List.getElem?_eq_some_iff.1 he0).1
    have hjs : j < es.size := by simpa using hjl
    apply List.ext_getElem?
    intro i
    rw [List.getElem?_map, List.getElem?_modify, List.getElem?_set]
    by_cases hij : j = i
    · subst hij
      simp [hj, IM.ent, IM.prs, hjs, hq1]
    · simp [hij]
theorem map_erase {α β : Type} (f : α → β) : ∀ (l : List α) (j : Nat), (l.eraseIdx j).map f = (l.map f).eraseIdx j
  | [], _ => rfl
  | _ :: _, 0 => rfl
  | x :: l, j + 1 => by simp [map_erase f l j]
theorem IMap.drop (h : IMap w B ps) (ht : P.underlying t = some (.map k e)) (hk : P.underlying k = some (.int .i64)) (a : Int) (ty : TypeId) :
    ∃ w', (Builtin.delete_ #[t, k] ty #[.map (some B), .int .i64 a]).run P w = .ok (.tuple #[]) w' ∧ IMap w' B (IM.del a ps) ∧ w.grownBy w' (some B) := by
  obtain ⟨es, cl, hb, hes⟩ := h
  have hf := IM.findNow_find a es.toList ps 0 hes
  have hck := fun em => MapKept.run_checkKey (P := P) (w := w) hk (k := .int .i64 a) (d := .int .i64) (by trivial) em 9999
  have hfk : (Instr.findKey k (.int .i64 a) es.toList).run P w = .ok (IM.find a ps 0) w := by
    simp [Instr.findKey, run_underlying hk, hf]
  have hlt := heap_lt hb
  have hset : ∀ o, ({ w with heap := w.heap.setIfInBounds B o } : World).heap[B]? = some o := fun o => by simp [hlt]
  have hgrow : ∀ o, w.grownBy ({ w with heap := w.heap.setIfInBounds B o } : World) (some B) := fun o => ⟨rfl, rfl, rfl, by simp, fun j _ hj => by
    have hne : ¬ B = j := fun e => hj (by rw [e])
    simp [Array.getElem?_setIfInBounds, hne]⟩
  obtain ⟨u1, u2⟩ := IM.find_del a ps 0
  cases hfi : IM.find a ps 0 with
  | none =>
    refine ⟨_, by simp [Builtin.delete_, run_underlying ht, MapKept.run_getObj_map hb, hck, hfk, hfi, MapKept.run_setObj_map _ hb, Result.andThen]; rfl, ⟨_, _, hset _, ?_⟩, hgrow _⟩
    rw [u1 hfi]
    exact hes
  | some r =>
    obtain ⟨j, x⟩ := r
    obtain ⟨_, hq, hq3⟩ := u2 j x hfi
    simp only [Nat.sub_zero] at hq hq3
    have hjs : j < es.size := by
      have h1 : (es.toList.map IM.ent).length = (ps.map IM.prs).length := by rw [hes]
      simp at h1
      omega
    refine ⟨_, by simp [Builtin.delete_, run_underlying ht, MapKept.run_getObj_map hb, hck, hfk, hfi, MapKept.run_setObj_map _ hb, Result.andThen]; rfl, ⟨_, _, hset _, ?_⟩, hgrow _⟩
    unfold Array.eraseIdxIfInBounds
    rw [dif_pos hjs, hq3, Array.toList_eraseIdx]
    rw [map_erase, map_erase, hes]
theorem IMap.len (h : IMap w B ps) (ht : P.underlying t = some (.map k e)) (ty : TypeId) : (Builtin.len_ #[t] ty #[.map (some B)]).run P w = .ok (.int .i64 ps.length) w := by
  obtain ⟨es, cl, hb, hes⟩ := h
  have hl : es.size = ps.length := by
    have h1 : (es.toList.map IM.ent).length = (ps.map IM.prs).length := by rw [hes]
    simpa using h1
  simp [Builtin.len_, run_underlying ht, MapKept.run_getObj_map hb, goInt, hl]
end

/-! ### bytes as a string -/
def strOf (l : List Int) : ByteArray := ⟨(l.map fun n => UInt8.ofNat n.toNat).toArray⟩
theorem foldl_push : ∀ (l : List Int) (s : ByteArray), (l.foldl (fun (r : ByteArray) n => r.push (UInt8.ofNat n.toNat)) s).data.toList = s.data.toList ++ l.map (fun n => UInt8.ofNat n.toNat)
  | [], s => by simp
  | x :: l, s => by
    rw [List.foldl_cons, foldl_push l]
    simp [ByteArray.push]
theorem strOf_fold (l : List Int) : l.foldl (fun (r : ByteArray) n => r.push (UInt8.ofNat n.toNat)) ByteArray.empty = strOf l := by
  have h := foldl_push l ByteArray.empty
  unfold strOf
  generalize l.foldl (fun (r : ByteArray) n => r.push (UInt8.ofNat n.toNat)) ByteArray.empty = s at h ⊢
  cases s with
  | mk d =>
    congr 1
    apply Array.toList_inj.1
    have e0 : ByteArray.empty.data.toList = [] := rfl
    rw [e0, List.nil_append] at h
    exact h
theorem strOf_toList (l : List Int) : (strOf l).toList = l.map fun n => UInt8.ofNat n.toNat := by
  rw [ByteArray.toList_eq]
  rfl
theorem run_str {P : Program} {src dst e : TypeId} (hs : P.underlying src = some (.slice e)) (he : P.underlying e = some (.int .u8)) (hd : P.underlying dst = some .string) {w : World} {A : Option Addr} {l : List Int} (c : Nat) (hr : ReadsI w .u8 A l) :
    (convert src dst (.slice A l.length c)).run P w = .ok (.string (strOf l)) w := by
  cases A with
  | none =>
    obtain rfl := hr.none
    exact Lib.run_convert_nil_bytes w src dst e c hs he hd
  | some a =>
    rw [run_convert_bytes_string w src dst e (some a) l.length c hs he hd]
    have hc := run_loadCells_list (P := P) (w := w) a (l.map (Value.int .u8)) hr.cells
    rw [List.length_map] at hc
    rw [run_bytesToString w a l.length c l hc, strOf_fold]
def isByte (x : Int) : Prop := 0 ≤ x ∧ x ≤ 255
theorem strOf_inj {l m : List Int} (hl : ∀ x ∈ l, isByte x) (hm : ∀ x ∈ m, isByte x) : (strOf l).toList = (strOf m).toList ↔ l = m := by
  rw [strOf_toList, strOf_toList]
  constructor
  · intro h
    induction l generalizing m with
    | nil => cases m with
      | nil => rfl
      | cons y m => simp at h
    | cons x l ih => cases m with
      | nil => simp at h
      | cons y m =>
        simp only [List.map_cons, List.cons.injEq] at h
        have hx := hl x (List.mem_cons_self ..)
        have hy := hm y (List.mem_cons_self ..)
        have h1 : x = y := by
          have h2 := congrArg UInt8.toNat h.1
          simp only [UInt8.toNat_ofNat'] at h2
          unfold isByte at hx hy
          omega
        rw [h1, ih (fun z hz => hl z (List.mem_cons_of_mem _ hz)) (fun z hz => hm z (List.mem_cons_of_mem _ hz)) h.2]
  · intro h
    rw [h]

section
open Go.ChangeShapes Go.WideShapes
/-- A slice of whole numbers that came in: what it reads as, up to its length. -/
theorem open_reads {H : Type} {enc : TypeId × Value → H} {P : Program} {W : World} {base : Nat} {spare : Nat → Bool} {held : Bool} {t e : TypeId} {k : IntKind} {a : Option Addr} {len cap : Nat} {d : DataW H} {ps : List MemPlace}
    (hu : P.underlying t = some (.slice e)) (he : P.underlying e = some (.int k)) (hc : P.cellsOf e = 1) (h : DataW.Trod enc P W base spare held t (.slice a len cap) d ps) :
    ∃ zs : List Int, len = zs.length ∧ ReadsI W k a zs ∧ ∀ x ∈ zs, (Lit.int k x).wf = true := by
  obtain ⟨fuel, hf⟩ := h
  rcases open_ints hu he hc hf with ⟨hcs, _⟩ | ⟨x, l, c, zs, hcs, _, hl, _, hz, hx, hcell, hwz⟩
  · simp [Value.cells] at hcs
    obtain ⟨rfl, rfl, rfl⟩ := hcs
    exact ⟨[], rfl, fun h => absurd rfl h, by simp⟩
  · simp [Value.cells] at hcs
    obtain ⟨rfl, rfl, rfl⟩ := hcs
    have hl2 : len ≤ zs.length := by
      rw [hz]
      split
      · exact hl
      · exact Nat.le_refl _
    refine ⟨zs.take len, by simp; omega, fun _ => ⟨x, rfl, fun i hi => ?_⟩, fun y hy => hwz y (List.mem_of_mem_take hy)⟩
    have hi2 : i < len := by simp at hi; omega
    rw [hcell i (by omega)]
    congr 2
    simp [List.getD_eq_getElem?_getD, List.getElem?_take, hi2]
theorem sized_ints {H : Type} {enc : TypeId × Value → H} {P : Program} {W : World} {base : Nat} {spare : Nat → Bool} {held : Bool} {t e : TypeId} {k : IntKind} {a : Option Addr} {len cap : Nat} {d : DataW H} {ps : List MemPlace} {ts : List TypeId} {ds : List (DataW H)} {j : Nat}
    (hsz : (DataW.weightsEach P ts ds).all (· ≤ reachBytes) = true) (ht : ts[j]? = some t) (hd : ds[j]? = some d) (hu : P.underlying t = some (.slice e)) (he : P.underlying e = some (.int k)) (hc : P.cellsOf e = 1) {B : Nat} (hB : P.bytesOf e = B)
    (h : DataW.Trod enc P W base spare held t (.slice a len cap) d ps) : len * B ≤ 140737488351232 := by
  obtain ⟨fuel, hf⟩ := h
  rcases open_ints hu he hc hf with ⟨hcs, _⟩ | ⟨x, l, c, zs, hcs, _, hl, _, hz, hx, _, _⟩
  · simp [Value.cells] at hcs
    obtain ⟨rfl, rfl, rfl⟩ := hcs
    simp
  · simp [Value.cells] at hcs
    obtain ⟨rfl, rfl, rfl⟩ := hcs
    obtain ⟨hx, _⟩ := Prod.mk.inj hx
    subst hx
    have z := sized_slice hsz ht hd hu
    rw [hB] at z
    have hl2 : len ≤ zs.length := by
      rw [hz]
      split
      · exact hl
      · exact Nat.le_refl _
    have h1 : (lits (H := H) k (zs.take len)).length + (lits (H := H) k (zs.drop len)).length = zs.length := by
      simp [lits]
      omega
    rw [h1] at z
    exact Nat.le_trans (Nat.mul_le_mul_right _ hl2) z
end

/-- copy of as many elements as there are. -/
theorem run_copy_all {P : Program} {t e : TypeId} (ht : P.underlying t = some (.slice e)) (hs : (P.info? e).map (·.size) = some 1) {w : World} {g : Nat} {cur : Array Value} (hg : w.heap[g]? = some (.cells cur e (0, 0))) {q : IntKind} {A : Option Addr} {l : List Int} (c cap : Nat) (hr : ReadsI w q A l) (hl : cur.size = l.length) :
    ∃ w2, (∀ ty, (Builtin.copy_ #[t, t] ty #[.slice (some ⟨g, 0, Option.none⟩) l.length cap, .slice A l.length c]).run P w = .ok (.int .i64 l.length) w2) ∧ w2.heap[g]? = some (.cells (l.map (Value.int q)).toArray e (0, 0)) ∧ Chg (fun k => k = g) w w2 := by
  by_cases h0 : l.length = 0
  · have hn : l = [] := List.eq_nil_of_length_eq_zero h0
    subst hn
    have hcur : cur = #[] := Array.eq_empty_of_size_eq_zero (by simpa using hl)
    subst hcur
    exact ⟨w, fun ty => run_copy_none (P := P) w t t ty e _ A 0 cap 0 c ht hs (by simp), hg, Chg.refl _ _⟩
  · obtain ⟨a, rfl, _⟩ := hr (fun e0 => h0 (by rw [e0]; rfl))
    have h1 : ∀ v ∈ l.map (Value.int q), v.oneCell' = true := by
      intro v hv
      obtain ⟨x, _, rfl⟩ := List.mem_map.1 hv
      rfl
    have hC : (cur.toList.take 0 ++ l.map (Value.int q) ++ cur.toList.drop (0 + (l.map (Value.int q)).length)).toArray = (l.map (Value.int q)).toArray := by
      have hd : cur.toList.drop (0 + (l.map (Value.int q)).length) = [] := List.drop_eq_nil_of_le (by simp [hl])
      rw [hd]
      simp
    refine ⟨w.setRow g (l.map (Value.int q)).toArray, fun ty => ?_, setRow_heap w g _ _ e _ hg, ⟨rfl, rfl, rfl, by simp [World.setRow], fun k hk hne => setRow_other w g k _ hne⟩⟩
    have hc := run_copy_row (P := P) w t t ty e g 0 l.length cap a l.length c cur e (l.map (Value.int q)) ht hs hg (by simp) hr.cells (by simp [hl]) h1
    rw [hc, hC, List.length_map]
    rfl

/-! ### more on what has changed -/
theorem chg_cell {F : Nat → Prop} {w w' : World} (hc : Chg F w w') {p : Addr} {v : Value} (h : w.cell? p = some v) (hF : ¬ F p.block) : w'.cell? p = some v := by
  rw [World.cell?_of_block (w := w)]
  · exact h
  · exact hc.block _ (World.block_lt_of_cell? w _ h) hF
theorem chg_below {F : Nat → Prop} {w a c : World} {B : Nat} (hb : Below B w a) (h : Chg F a c) (hF : ∀ k, F k → B ≤ k) (hB : B ≤ a.heap.size) : Below B w c :=
  hb.trans (h.below (fun k hk => ⟨by omega, fun hf => by have := hF k hf; omega⟩))
theorem chg_of {w w' : World} (h : Below w.heap.size w w') : Chg (fun _ => False) w w' := ⟨h.os, h.tape, h.output, h.size, fun k hk _ => h.block k hk⟩

/-! ### rows that are owned: an array at a block's begin, or nil -/
def Own (w : World) (e : TypeId) (q : IntKind) (v : Value) (l : List Int) : Prop := w.ownsRow 0 e 1 v l.length (l.map (Value.int q))
namespace Own
variable {w w' : World} {e : TypeId} {q : IntKind} {v : Value} {l : List Int}
theorem nil (w : World) (e : TypeId) (q : IntKind) : Own w e q (.slice none 0 0) [] := World.ownsRow_nil _ _ _ _
theorem lt (h : Own w e q v l) {k : Nat} (hk : v.ownBlock = some k) : k < w.heap.size := (World.ownsRow.lt h k hk).2
theorem chg (h : Own w e q v l) {F : Nat → Prop} (hc : Chg F w w') (hF : ∀ k, v.ownBlock = some k → ¬ F k) : Own w' e q v l := by
  refine ⟨h.1, ?_⟩
  rcases h.2 with hn | ⟨g, cap, cur, rfl, hb, hgg, rest⟩
  · exact .inl hn
  · exact .inr ⟨g, cap, cur, rfl, hb, (hc.block g (heap_lt hgg) (hF g rfl)).trans hgg, rest⟩
/-- What the slice's value is. -/
theorem form (h : Own w e q v l) : ∃ A c, v = .slice A l.length c ∧ ReadsI w q A l ∧ (∀ a, A = some a → v.ownBlock = some a.block) ∧ (A = none → v.ownBlock = none) := by
  obtain ⟨A, c, rfl, hr, _⟩ := ReadsI.of_own h
  refine ⟨A, c, rfl, hr, fun a ha => by subst ha; rfl, fun ha => by subst ha; rfl⟩
/-- The same, where there is an element. -/
theorem at_ (h : Own w e q v l) (hne : 0 < l.length) : ∃ g c cur, v = .slice (some ⟨g, 0, none⟩) l.length c ∧ v.ownBlock = some g ∧ w.heap[g]? = some (.cells cur e (0, 0)) ∧ ∀ i, i < l.length → cur[i]? = some (.int q (l.getD i 0)) := by
  rcases h.2 with ⟨_, h0⟩ | ⟨g, cap, cur, rfl, hb, hgg, hnc, hcm, hcs, htake⟩
  · omega
  · refine ⟨g, cap, cur, rfl, rfl, hgg, fun i hi => ?_⟩
    have h2 : (cur.toList.take (l.length * 1))[i]? = (l.map (Value.int q))[i]? := by rw [htake]
    rw [List.getElem?_take, if_pos (by omega), Array.getElem?_toList] at h2
    rw [h2]
    simp [hi]
/-- An element is stored. -/
theorem store (h : Own w e q v l) {g i : Nat} (hv : v.ownBlock = some g) (hi : i < l.length) (x : Int) : Own (w.setCell ⟨g, i, none⟩ (.int q x)) e q v (l.set i x) := by
  obtain ⟨h1, h2⟩ := h
  refine ⟨by simp, ?_⟩
  rcases h2 with ⟨rfl, h0⟩ | ⟨g', cap, cur, rfl, hb, hgg, hnc, hcm, hcs, htake⟩
  · omega
  · cases hv
    refine .inr ⟨g', cap, cur.setIfInBounds i (.int q x), by simp, hb, heap_setCell hgg i _, by simpa using hnc, hcm, by simpa using hcs, ?_⟩
    simp only [List.length_set, List.map_set, Array.toList_setIfInBounds]
    rw [List.take_set, htake]
/-- Behind append. -/
theorem grown {xs : List Int} (h : w'.ownsRow 0 e 1 v (l.length + xs.length) (l.map (Value.int q) ++ xs.map (Value.int q))) : Own w' e q v (l ++ xs) := by
  unfold Own
  rw [List.length_append, List.map_append]
  exact h
end Own

/-! ### slices of structs of whole numbers that came in -/
def d3 : Int × Int × Int := (0, 0, 0)
def Reads3 (w : World) (q0 q1 q2 : IntKind) (A : Option Addr) (l : List (Int × Int × Int)) : Prop := l ≠ [] → ∃ b off, A = some ⟨b, off, none⟩ ∧ b < w.heap.size ∧ ∀ i, i < l.length →
  w.cell? ⟨b, off + i * 3, none⟩ = some (.int q0 (l.getD i d3).1) ∧ w.cell? ⟨b, off + i * 3 + 1, none⟩ = some (.int q1 (l.getD i d3).2.1) ∧ w.cell? ⟨b, off + i * 3 + 2, none⟩ = some (.int q2 (l.getD i d3).2.2)
theorem Reads3.below {w w' : World} {q0 q1 q2 : IntKind} {A : Option Addr} {l : List (Int × Int × Int)} (h : Reads3 w q0 q1 q2 A l) (hb : Below w.heap.size w w') : Reads3 w' q0 q1 q2 A l := by
  intro hne
  obtain ⟨b, off, hA, hlt, hc⟩ := h hne
  refine ⟨b, off, hA, Nat.lt_of_lt_of_le hlt hb.size, fun i hi => ?_⟩
  obtain ⟨c0, c1, c2⟩ := hc i hi
  exact ⟨(hb.cell (p := ⟨b, off + i * 3, none⟩) hlt).trans c0, (hb.cell (p := ⟨b, off + i * 3 + 1, none⟩) hlt).trans c1, (hb.cell (p := ⟨b, off + i * 3 + 2, none⟩) hlt).trans c2⟩
def d4 : Int × Int × Int × Int := (0, 0, 0, 0)
def Reads4 (w : World) (q0 q1 q2 q3 : IntKind) (A : Option Addr) (l : List (Int × Int × Int × Int)) : Prop := l ≠ [] → ∃ b off, A = some ⟨b, off, none⟩ ∧ b < w.heap.size ∧ ∀ i, i < l.length →
  w.cell? ⟨b, off + i * 4, none⟩ = some (.int q0 (l.getD i d4).1) ∧ w.cell? ⟨b, off + i * 4 + 1, none⟩ = some (.int q1 (l.getD i d4).2.1) ∧ w.cell? ⟨b, off + i * 4 + 2, none⟩ = some (.int q2 (l.getD i d4).2.2.1) ∧ w.cell? ⟨b, off + i * 4 + 3, none⟩ = some (.int q3 (l.getD i d4).2.2.2)
theorem Reads4.below {w w' : World} {q0 q1 q2 q3 : IntKind} {A : Option Addr} {l : List (Int × Int × Int × Int)} (h : Reads4 w q0 q1 q2 q3 A l) (hb : Below w.heap.size w w') : Reads4 w' q0 q1 q2 q3 A l := by
  intro hne
  obtain ⟨b, off, hA, hlt, hc⟩ := h hne
  refine ⟨b, off, hA, Nat.lt_of_lt_of_le hlt hb.size, fun i hi => ?_⟩
  obtain ⟨c0, c1, c2, c3⟩ := hc i hi
  exact ⟨(hb.cell (p := ⟨b, off + i * 4, none⟩) hlt).trans c0, (hb.cell (p := ⟨b, off + i * 4 + 1, none⟩) hlt).trans c1, (hb.cell (p := ⟨b, off + i * 4 + 2, none⟩) hlt).trans c2, (hb.cell (p := ⟨b, off + i * 4 + 3, none⟩) hlt).trans c3⟩
section
open Go.ChangeShapes Go.WideShapes Go.Deep
theorem plain_addr {w : World} {a : Addr} {n : Nat} {v : Value} (h : w.cell? (a.add n) = some v) (h1 : n = 0) : a = ⟨a.block, a.off, none⟩ := by
  subst h1
  have e : a.add 0 = a := by simp [Addr.add]
  rw [e] at h
  cases a with
  | mk b o s =>
    cases s with
    | none => rfl
    | some s =>
      unfold World.cell? at h
      split at h
      · simp at h
      · cases h
theorem add_plain (b o n : Nat) : (⟨b, o, none⟩ : Addr).add n = ⟨b, o + n, none⟩ := by
  unfold Addr.add
  split
  · rename_i h; subst h; rfl
  · rfl
theorem open_reads3 {H : Type} {enc : TypeId × Value → H} {P : Program} {W : World} {base : Nat} {spare : Nat → Bool} {held : Bool} {t e : TypeId} {f0 f1 f2 : Field} {q0 q1 q2 : IntKind} {a : Option Addr} {len cap : Nat} {d : DataW H} {ps : List MemPlace}
    (hu : P.underlying t = some (.slice e)) (he : P.underlying e = some (.struct #[f0, f1, f2])) (hc : P.cellsOf e = 3) (o0 : f0.offset = 0) (o1 : f1.offset = 1) (o2 : f2.offset = 2) (c0 : P.cellsOf f0.type = 1) (c1 : P.cellsOf f1.type = 1) (c2 : P.cellsOf f2.type = 1)
    (k0 : P.underlying f0.type = some (.int q0)) (k1 : P.underlying f1.type = some (.int q1)) (k2 : P.underlying f2.type = some (.int q2)) (h : DataW.Trod enc P W base spare held t (.slice a len cap) d ps) :
    ∃ zs : List (Int × Int × Int), len = zs.length ∧ Reads3 W q0 q1 q2 a zs ∧ ∀ z ∈ zs, (Lit.int q0 z.1).wf = true ∧ (Lit.int q1 z.2.1).wf = true ∧ (Lit.int q2 z.2.2).wf = true := by
  obtain ⟨fuel, hf⟩ := h
  rcases open_slice hu hf with ⟨hcs, _⟩ | ⟨x, l, c, m, n, D, Pl, hcs, _, hl, hm, hmm, hx, hel⟩
  · simp [Value.cells] at hcs
    obtain ⟨rfl, rfl, rfl⟩ := hcs
    exact ⟨[], rfl, fun h => absurd rfl h, by simp⟩
  · simp [Value.cells] at hcs
    obtain ⟨rfl, rfl, rfl⟩ := hcs
    have hlm : len ≤ m := by rw [hmm]; split <;> omega
    have each : ∀ i, i < len → ∃ z : Int × Int × Int, W.cell? (x.add (i * 3)) = some (.int q0 z.1) ∧ W.cell? (x.add (i * 3 + 1)) = some (.int q1 z.2.1) ∧ W.cell? (x.add (i * 3 + 2)) = some (.int q2 z.2.2) ∧ (Lit.int q0 z.1).wf = true ∧ (Lit.int q1 z.2.1).wf = true ∧ (Lit.int q2 z.2.2).wf = true := by
      intro i hi
      obtain ⟨cs', h1, h2⟩ := hel i (by omega)
      rw [hc] at h1
      obtain ⟨_, hlen, hcell⟩ := World.cells?_some h1
      obtain ⟨y0, y1, y2, k, _, _, g0, g1, g2⟩ := trod_struct3 he h2
      match cs', hlen with
      | [v0, v1, v2], _ =>
        rw [o0, c0] at g0
        rw [o1, c1] at g1
        rw [o2, c2] at g2
        simp only [List.drop_zero, List.drop_succ_cons, List.take_succ_cons, List.take_zero] at g0 g1 g2
        obtain ⟨a0, e0, _, w0⟩ := DataW.trod_int k0 g0
        obtain ⟨a1, e1, _, w1⟩ := DataW.trod_int k1 g1
        obtain ⟨a2, e2, _, w2⟩ := DataW.trod_int k2 g2
        simp only [List.cons.injEq, and_true] at e0 e1 e2
        subst e0 e1 e2
        have p0 := hcell 0 (by omega)
        have p1 := hcell 1 (by omega)
        have p2 := hcell 2 (by omega)
        rw [Go.Deep.add_add] at p0 p1 p2
        exact ⟨(a0, a1, a2), by simpa using p0, by simpa using p1, by simpa using p2, w0, w1, w2⟩
    obtain ⟨q, hq⟩ := choose_lt each
    refine ⟨(List.range len).map q, by simp, fun hne => ?_, fun z hz => ?_⟩
    · have hpos : 0 < len := by
        rcases Nat.eq_zero_or_pos len with h0 | h0
        · subst h0; simp at hne
        · exact h0
      have hx0 := plain_addr (hq 0 hpos).1 (by omega)
      have hb := World.block_lt_of_cell? W _ (hq 0 hpos).1
      rw [block_add] at hb
      refine ⟨x.block, x.off, by rw [← hx0], hb, fun i hi => ?_⟩
      have hi2 : i < len := by simpa using hi
      obtain ⟨p0, p1, p2, _, _, _⟩ := hq i hi2
      rw [hx0, add_plain] at p0 p1 p2
      have eg : ((List.range len).map q).getD i d3 = q i := by simp [List.getD_eq_getElem?_getD, hi2]
      rw [eg]
      exact ⟨p0, by rw [← p1, Nat.add_assoc], by rw [← p2, Nat.add_assoc]⟩
    · obtain ⟨i, hi, rfl⟩ := List.mem_map.1 hz
      exact (hq i (List.mem_range.1 hi)).2.2.2
theorem open_reads4 {H : Type} {enc : TypeId × Value → H} {P : Program} {W : World} {base : Nat} {spare : Nat → Bool} {held : Bool} {t e : TypeId} {f0 f1 f2 f3 : Field} {q0 q1 q2 q3 : IntKind} {a : Option Addr} {len cap : Nat} {d : DataW H} {ps : List MemPlace}
    (hu : P.underlying t = some (.slice e)) (he : P.underlying e = some (.struct #[f0, f1, f2, f3])) (hc : P.cellsOf e = 4) (o0 : f0.offset = 0) (o1 : f1.offset = 1) (o2 : f2.offset = 2) (o3 : f3.offset = 3) (c0 : P.cellsOf f0.type = 1) (c1 : P.cellsOf f1.type = 1) (c2 : P.cellsOf f2.type = 1) (c3 : P.cellsOf f3.type = 1)
    (k0 : P.underlying f0.type = some (.int q0)) (k1 : P.underlying f1.type = some (.int q1)) (k2 : P.underlying f2.type = some (.int q2)) (k3 : P.underlying f3.type = some (.int q3)) (h : DataW.Trod enc P W base spare held t (.slice a len cap) d ps) :
    ∃ zs : List (Int × Int × Int × Int), len = zs.length ∧ Reads4 W q0 q1 q2 q3 a zs ∧ ∀ z ∈ zs, (Lit.int q0 z.1).wf = true ∧ (Lit.int q1 z.2.1).wf = true ∧ (Lit.int q2 z.2.2.1).wf = true ∧ (Lit.int q3 z.2.2.2).wf = true := by
  obtain ⟨fuel, hf⟩ := h
  rcases open_slice hu hf with ⟨hcs, _⟩ | ⟨x, l, c, m, n, D, Pl, hcs, _, hl, hm, hmm, hx, hel⟩
  · simp [Value.cells] at hcs
    obtain ⟨rfl, rfl, rfl⟩ := hcs
    exact ⟨[], rfl, fun h => absurd rfl h, by simp⟩
  · simp [Value.cells] at hcs
    obtain ⟨rfl, rfl, rfl⟩ := hcs
    have hlm : len ≤ m := by rw [hmm]; split <;> omega
    have each : ∀ i, i < len → ∃ z : Int × Int × Int × Int, W.cell? (x.add (i * 4)) = some (.int q0 z.1) ∧ W.cell? (x.add (i * 4 + 1)) = some (.int q1 z.2.1) ∧ W.cell? (x.add (i * 4 + 2)) = some (.int q2 z.2.2.1) ∧ W.cell? (x.add (i * 4 + 3)) = some (.int q3 z.2.2.2) ∧ (Lit.int q0 z.1).wf = true ∧ (Lit.int q1 z.2.1).wf = true ∧ (Lit.int q2 z.2.2.1).wf = true ∧ (Lit.int q3 z.2.2.2).wf = true := by
      intro i hi
      obtain ⟨cs', h1, h2⟩ := hel i (by omega)
      rw [hc] at h1
      obtain ⟨_, hlen, hcell⟩ := World.cells?_some h1
      obtain ⟨y0, y1, y2, y3, k, _, _, g0, g1, g2, g3⟩ := Go.Joins.trod_struct4 he h2
      match cs', hlen with
      | [v0, v1, v2, v3], _ =>
        rw [o0, c0] at g0
        rw [o1, c1] at g1
        rw [o2, c2] at g2
        rw [o3, c3] at g3
        simp only [List.drop_zero, List.drop_succ_cons, List.take_succ_cons, List.take_zero] at g0 g1 g2 g3
        obtain ⟨a0, e0, _, w0⟩ := DataW.trod_int k0 g0
        obtain ⟨a1, e1, _, w1⟩ := DataW.trod_int k1 g1
        obtain ⟨a2, e2, _, w2⟩ := DataW.trod_int k2 g2
        obtain ⟨a3, e3, _, w3⟩ := DataW.trod_int k3 g3
        simp only [List.cons.injEq, and_true] at e0 e1 e2 e3
        subst e0 e1 e2 e3
        have p0 := hcell 0 (by omega)
        have p1 := hcell 1 (by omega)
        have p2 := hcell 2 (by omega)
        have p3 := hcell 3 (by omega)
        rw [Go.Deep.add_add] at p0 p1 p2 p3
        exact ⟨(a0, a1, a2, a3), by simpa using p0, by simpa using p1, by simpa using p2, by simpa using p3, w0, w1, w2, w3⟩
    obtain ⟨q, hq⟩ := choose_lt each
    refine ⟨(List.range len).map q, by simp, fun hne => ?_, fun z hz => ?_⟩
    · have hpos : 0 < len := by
        rcases Nat.eq_zero_or_pos len with h0 | h0
        · subst h0; simp at hne
        · exact h0
      have hx0 := plain_addr (hq 0 hpos).1 (by omega)
      have hb := World.block_lt_of_cell? W _ (hq 0 hpos).1
      rw [block_add] at hb
      refine ⟨x.block, x.off, by rw [← hx0], hb, fun i hi => ?_⟩
      have hi2 : i < len := by simpa using hi
      obtain ⟨p0, p1, p2, p3, _, _, _, _⟩ := hq i hi2
      rw [hx0, add_plain] at p0 p1 p2 p3
      have eg : ((List.range len).map q).getD i d4 = q i := by simp [List.getD_eq_getElem?_getD, hi2]
      rw [eg]
      exact ⟨p0, by rw [← p1, Nat.add_assoc], by rw [← p2, Nat.add_assoc], by rw [← p3, Nat.add_assoc]⟩
    · obtain ⟨i, hi, rfl⟩ := List.mem_map.1 hz
      exact (hq i (List.mem_range.1 hi)).2.2.2.2
end

/-! ### append, as an equation on its run -/
section
variable {P : Program} {w : World} {e t ty : TypeId} {q : IntKind} {v : Value} {l : List Int}
theorem run_append_nothing (i : TypeInfo) (ht : P.underlying t = some (.slice e)) (hi : P.info? e = some i) {base size n : Nat} {xs : List Value} (hown : w.ownsRow base e size v n xs) (c : Nat) : (Builtin.append_ #[t, t] ty #[v, .slice none 0 c]).run P w = .ok v w := by
  rcases hown.2 with ⟨rfl, rfl⟩ | ⟨g, cap, cur, rfl, _, _, hnc, _⟩
  · simp [Builtin.append_, run_underlying ht, sizeOf, typeInfo, hi, Builtin.lenOf, Builtin.firstCells]
  · simp [Builtin.append_, run_underlying ht, sizeOf, typeInfo, hi, Builtin.lenOf, Builtin.firstCells, hnc, storeCells]
/-- append(v, m...), v a row of the call's own. -/
theorem Own.appendRB (h : Own w e q v l) (ty : TypeId) (ht : P.underlying t = some (.slice e)) {z : Int} {bytes : Nat} (hinfo : (P.info? e).map (fun i => (i.zero, i.size, i.bytes)) = some (some (.int q z), 1, bytes)) {A : Option Addr} {m : List Int} (c : Nat) (hr : ReadsI w q A m) (hm : (l.length + m.length) * bytes ≤ 140737488355328) (hby : 1 ≤ bytes) :
    ∃ A' c' w2, (Builtin.append_ #[t, t] ty #[v, .slice A m.length c]).run P w = .ok (.slice A' (l.length + m.length) c') w2 ∧ Own w2 e q (.slice A' (l.length + m.length) c') (l ++ m) ∧ w.grownBy w2 v.ownBlock ∧
      (Value.ownBlock (.slice A' (l.length + m.length) c') = v.ownBlock ∨ Value.ownBlock (.slice A' (l.length + m.length) c') = some w.heap.size) := by
  obtain ⟨i, hi, hzz⟩ := Option.map_eq_some_iff.1 hinfo
  simp only [Prod.mk.injEq] at hzz
  obtain ⟨hz, hs, hb⟩ := hzz
  cases A with
  | none =>
    obtain rfl := hr.none
    obtain ⟨A', c', hv, _, _, _⟩ := h.form
    refine ⟨A', c', w, ?_, ?_, ⟨rfl, rfl, rfl, Nat.le_refl _, fun _ _ _ => rfl⟩, Or.inl ?_⟩
    · rw [List.length_nil, run_append_nothing i ht hi h c, Nat.add_zero, ← hv]
    · rw [List.length_nil, Nat.add_zero, List.append_nil, ← hv]; exact h
    · rw [List.length_nil, Nat.add_zero, hv]
  | some a =>
    have h1 : ∀ u ∈ m.map (Value.int q), u.oneCell' = true := by
      intro u hu
      obtain ⟨x, _, rfl⟩ := List.mem_map.1 hu
      rfl
    obtain ⟨v', w2, hrun, ho, hg, _, hat⟩ := run_append_own_at (P := P) w 0 t ty e i (.int q z) 1 bytes ht hi hz hs hb rfl (by omega) v l.length (l.map (Value.int q)) h a m.length c (m.map (Value.int q)) (by simp) hr.cells h1 (by unfold maxLen; have := Nat.le_mul_of_pos_right (l.length + m.length) hby; omega) hm (by omega)
    have ho' : Own w2 e q v' (l ++ m) := by
      unfold Own
      rw [List.length_append, List.map_append]
      exact ho
    obtain ⟨A', c', hv, _, _, _⟩ := ho'.form
    rw [List.length_append] at hv
    subst hv
    exact ⟨A', c', w2, hrun, ho', hg, hat⟩
/-- append(v, x): the element lies in a block of its own first. -/
theorem Own.append1B (h : Own w e q v l) (ty : TypeId) (ht : P.underlying t = some (.slice e)) {z : Int} {bytes : Nat} (hinfo : (P.info? e).map (fun i => (i.zero, i.size, i.bytes)) = some (some (.int q z), 1, bytes)) (x : Int) (hm : (l.length + 1) * bytes ≤ 140737488355328) (hby : 1 ≤ bytes) :
    ∃ A' c' w2, (Builtin.append_ #[t, t] ty #[v, .slice (some ⟨w.heap.size, 0, none⟩) 1 1]).run P (w.alloc (.cells #[.int q x] e)) = .ok (.slice A' (l.length + 1) c') w2 ∧ Own w2 e q (.slice A' (l.length + 1) c') (l ++ [x]) ∧ w.grownBy w2 v.ownBlock ∧
      (∀ k, Value.ownBlock (.slice A' (l.length + 1) c') = some k → v.ownBlock = some k ∨ w.heap.size ≤ k) := by
  have ha : (w.alloc (.cells #[.int q x] e)).heap[w.heap.size]? = some (.cells ([x].map (Value.int q)).toArray e (0, 0)) := heap_alloc_at w _
  obtain ⟨A', c', w2, hrun, ho, hg, hat⟩ := Own.appendRB (P := P) (h.chg ((Chg.refl (fun _ => False) w).alloc (.cells #[.int q x] e)) (fun _ _ => id)) ty ht hinfo 1 (ReadsI.of_block ha) (by simpa using hm) hby
  refine ⟨A', c', w2, hrun, ho, (World.grownBy_alloc w _ _).trans hg, fun k hk => ?_⟩
  rcases hat with hat | hat
  · exact Or.inl (hat ▸ hk)
  · have := hat.symm.trans hk
    simp at this
    right
    omega
theorem Own.appendR (h : Own w e q v l) (ty : TypeId) (ht : P.underlying t = some (.slice e)) {z : Int} {bytes : Nat} (hinfo : (P.info? e).map (fun i => (i.zero, i.size, i.bytes)) = some (some (.int q z), 1, bytes)) {A : Option Addr} {m : List Int} (c : Nat) (hr : ReadsI w q A m) (hm : l.length + m.length ≤ 1000000000) (hby : bytes ≤ 8) (hb1 : 1 ≤ bytes := by decide) :
    ∃ A' c' w2, (Builtin.append_ #[t, t] ty #[v, .slice A m.length c]).run P w = .ok (.slice A' (l.length + m.length) c') w2 ∧ Own w2 e q (.slice A' (l.length + m.length) c') (l ++ m) ∧ w.grownBy w2 v.ownBlock ∧
      (Value.ownBlock (.slice A' (l.length + m.length) c') = v.ownBlock ∨ Value.ownBlock (.slice A' (l.length + m.length) c') = some w.heap.size) :=
  h.appendRB ty ht hinfo c hr (by have := Nat.mul_le_mul_left (l.length + m.length) hby; omega) hb1
theorem Own.append1 (h : Own w e q v l) (ty : TypeId) (ht : P.underlying t = some (.slice e)) {z : Int} {bytes : Nat} (hinfo : (P.info? e).map (fun i => (i.zero, i.size, i.bytes)) = some (some (.int q z), 1, bytes)) (x : Int) (hm : l.length < 1000000000) (hby : bytes ≤ 8) (hb1 : 1 ≤ bytes := by decide) :
    ∃ A' c' w2, (Builtin.append_ #[t, t] ty #[v, .slice (some ⟨w.heap.size, 0, none⟩) 1 1]).run P (w.alloc (.cells #[.int q x] e)) = .ok (.slice A' (l.length + 1) c') w2 ∧ Own w2 e q (.slice A' (l.length + 1) c') (l ++ [x]) ∧ w.grownBy w2 v.ownBlock ∧
      (∀ k, Value.ownBlock (.slice A' (l.length + 1) c') = some k → v.ownBlock = some k ∨ w.heap.size ≤ k) :=
  h.append1B ty ht hinfo x (by have := Nat.mul_le_mul_left (l.length + 1) hby; omega) hb1
end
/-- append as a run known beforehand. -/
theorem wpList_append_run {P : Program} {ops : Array Oper} {rest : List Oper} {o : Oper} {a : Act} {w : World} {Q : Exit → Act → World → Prop} (hgd : o.guard = none) (s x : Operand) (t : TypeId)
    (ho : o.op = .call { callee := .builtin .append, args := #[s, x], argTypes := #[t, t] }) (va vb v' : Value) (w' : World) (hs : a.eval s = va) (hx : a.eval x = vb) (hr : (Builtin.append_ #[t, t] o.type #[va, vb]).run P w = .ok v' w')
    (h : wpList P ops Q rest (a.put o.dst v') w') : wpList P ops Q (o :: rest) a w := by
  refine wpList_plain hgd fun K hK => ?_
  unfold Oper.wp execOp
  simp only [ho, resolve, invoke, builtin, Sem.run_bind, Sem.run_pure, Result.andThen_ok, List.map_toArray, List.map_cons, List.map_nil, hs, hx, hr]
  exact hK _ _ h
end Go.Ps
