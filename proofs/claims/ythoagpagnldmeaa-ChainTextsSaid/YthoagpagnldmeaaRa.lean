/- The document's chain: slices of its members. -/
import Derived.Test.YthoagpagnldmeaaCj
import Derived.Test.YthoagpagnldmeaaRh
import Derived.Test.YthoagpagnldmeaaK2
set_option linter.unusedVariables false
set_option linter.unusedSimpArgs false
namespace Go.Proofs.Ythoagpagnldmeaa
open Go.RowKit Go.Ps
/-- What a slice expression's value is, at elements of sz cells. -/
def cutF (sz : Nat) (A : Option Addr) (i c : Nat) : Option Addr := if c = i then A else A.map (·.add (i * sz))
section
variable {P : Program} {α : Type} {f : α → List Value} {sz : Nat} {w : World} {l : List α}
theorem flat_drop (hf : Lay f sz) : ∀ (l : List α) (i : Nat), (l.drop i).flatMap f = (l.flatMap f).drop (i * sz)
  | [], i => by simp
  | x :: l, 0 => by simp
  | x :: l, i + 1 => by
    rw [List.drop_succ_cons, flat_drop hf l i, List.flatMap_cons, Nat.succ_mul]
    have hl : (f x).length = sz := hf.len x
    rw [show i * sz + sz = (f x).length + i * sz by omega, List.drop_append]
    simp
theorem flat_take (hf : Lay f sz) : ∀ (l : List α) (i : Nat), (l.take i).flatMap f = (l.flatMap f).take (i * sz)
  | [], i => by simp
  | x :: l, 0 => by simp
  | x :: l, i + 1 => by
    rw [List.take_succ_cons, List.flatMap_cons, List.flatMap_cons, flat_take hf l i, Nat.succ_mul]
    have hl : (f x).length = sz := hf.len x
    rw [show i * sz + sz = (f x).length + i * sz by omega, List.take_append]
    have e1 : List.take ((f x).length + i * sz) (f x) = f x := List.take_of_length_le (by omega)
    rw [e1]
    simp
theorem ReadsF.sub (hf : Lay f sz) {A : Option Addr} {c : Nat} (h : ReadsF w f A l) (i j : Nat) (hj : j ≤ l.length) (hc : l.length ≤ c) : ReadsF w f (cutF sz A i c) ((l.take j).drop i) := by
  intro hne
  have hij : i < j := by
    rcases Nat.lt_or_ge i j with h1 | h1
    · exact h1
    · exfalso; apply hne; apply List.drop_eq_nil_of_le; rw [List.length_take]; omega
  obtain ⟨a, rfl, hx⟩ := h (by rintro rfl; simp at hj; omega)
  refine ⟨a.add (i * sz), by unfold cutF; rw [if_neg (by omega)]; rfl, fun k u hu => ?_⟩
  rw [Go.Deep.add_add]
  refine hx _ u ?_
  rw [flat_drop hf, flat_take hf, List.getElem?_drop, List.getElem?_take] at hu
  split at hu
  · exact hu
  · cases hu
theorem cutF_block {sz : Nat} {A : Option Addr} {i c : Nat} {a : Addr} (h : cutF sz A i c = some a) : ∃ b, A = some b ∧ a.block = b.block := by
  unfold cutF at h
  split at h
  · exact ⟨a, h, rfl⟩
  · obtain ⟨b, hb, rfl⟩ := Option.map_eq_some_iff.1 h
    exact ⟨b, hb, block_add b _⟩
variable {t e : TypeId}
theorem run_cutFL (ht : P.underlying t = some (.slice e)) (hs : (P.info? e).map (·.size) = some sz) (A : Option Addr) (n c : Nat) {ki : IntKind} (i : Nat) (hij : i ≤ n) (hj : n ≤ c) (W : World) :
    (Instr.sliceAt t (.slice A n c) (some (.int ki i)) none none).run P W = .ok (.slice (cutF sz A i c) (n - i) (c - i)) W := by
  obtain ⟨x, hx, hx2⟩ := Option.map_eq_some_iff.1 hs
  have hel : P.elem t = e := by simp [Program.elem, ht]
  have ht2 : P.underlying t = some (.slice (P.elem t)) := by rw [hel]; exact ht
  rw [run_sliceAt_slice W t _ _ _ _ ht2, run_slice_l W t A n c ht2 ki i (by omega) (by omega), hel]
  simp [sizeOf, typeInfo, hx, hx2, Result.andThen, sliced, cutF]
theorem run_cutFH (ht : P.underlying t = some (.slice e)) (hs : (P.info? e).map (·.size) = some sz) (A : Option Addr) (n c : Nat) {kj : IntKind} (j : Nat) (hj : j ≤ c) (W : World) :
    (Instr.sliceAt t (.slice A n c) none (some (.int kj j)) none).run P W = .ok (.slice (cutF sz A 0 c) j c) W := by
  obtain ⟨x, hx, hx2⟩ := Option.map_eq_some_iff.1 hs
  have hel : P.elem t = e := by simp [Program.elem, ht]
  have ht2 : P.underlying t = some (.slice (P.elem t)) := by rw [hel]; exact ht
  rw [run_sliceAt_slice W t _ _ _ _ ht2, run_slice_h W t A n c ht2 kj j (by omega) (by omega), hel]
  simp [sizeOf, typeInfo, hx, hx2, Result.andThen, sliced, cutF]
end
theorem size49 : (Try.prog.info? 49).map (·.size) = some 2 := by kernel_rfl
/-- The document's chain in memory. -/
structure RefW (W : World) (c : Nat) (v : Value) (L : List (Int × Int)) (nx : Int) : Prop where
  cell : W.heap[c]? = some (.cells #[v, .int .i64 nx] 35 (0, 0))
  own : OwnF W 49 2 fmem v L
  vc : v.ownBlock ≠ some c
theorem read2 {w : World} {g : Nat} {c0 c1 : Value} {t : TypeId} (h : w.heap[g]? = some (.cells #[c0, c1] t (0, 0))) : w.cell? ⟨g, 0, none⟩ = some c0 ∧ w.cell? ⟨g, 1, none⟩ = some c1 := ⟨cell_of h 0 rfl, cell_of h 1 rfl⟩
theorem RefW.chg {W W' : World} {c : Nat} {v : Value} {L : List (Int × Int)} {nx : Int} (h : RefW W c v L nx) {F : Nat → Prop} (hc : Chg F W W') (h1 : ¬ F c) (h2 : ∀ k, v.ownBlock = some k → ¬ F k) : RefW W' c v L nx :=
  ⟨(hc.block c (heap_lt h.cell) h1).trans h.cell, h.own.chg hc h2, h.vc⟩
/-- New members in new memory, then into the chain's cell. -/
theorem RefW.put {W W2 : World} {c : Nat} {v v' : Value} {L L' : List (Int × Int)} {nx : Int} (h : RefW W c v L nx) (hC : Chg (fun _ => False) W W2) (ho : OwnF W2 49 2 fmem v' L') (hn : ∀ k, v'.ownBlock = some k → W.heap.size ≤ k) :
    RefW (W2.setCell ⟨c, 0, none⟩ v') c v' L' nx ∧ Chg (fun k => k = c) W (W2.setCell ⟨c, 0, none⟩ v') := by
  have hcl := heap_lt h.cell
  have h2 : W2.heap[c]? = some (.cells #[v, .int .i64 nx] 35 (0, 0)) := (hC.block c hcl id).trans h.cell
  have hne : ∀ k, v'.ownBlock = some k → k ≠ c := fun k hk e => by have := hn k hk; omega
  refine ⟨⟨by rw [heap_setCell h2]; rfl, ho.chg (chg1 (F := fun k => k = c) (Chg.refl _ W2) rfl _) hne, fun e => hne c e rfl⟩, (hC.mono (G := fun k => k = c) (fun _ _ h => h.elim)).setCell (fun _ => rfl) _⟩
end Go.Proofs.Ythoagpagnldmeaa
