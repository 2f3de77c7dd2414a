/- Rows of several cells an element: cut, cleared. -/
import Derived.Test.YtpndkelbchjkiaaLj
import Derived.Laws.CopyRow
set_option linter.unusedVariables false
set_option linter.unusedSimpArgs false
namespace Go.Proofs.Ytpndkelbchjkiaa
open Go.RowKit Go.Ps
section
variable {P : Program} {t e : TypeId} {sz : Nat}
/-- What a slice expression's value is, elements of sz cells. -/
def cutN (sz : Nat) (A : Option Addr) (i c : Nat) : Option Addr := if c = i then A else A.map (·.add (i * sz))
theorem run_cutNL (ht : P.underlying t = some (.slice e)) (hs : (P.info? e).map (·.size) = some sz) (A : Option Addr) (n c : Nat) {ki : IntKind} (i : Nat) (hij : i ≤ n) (hj : n ≤ c) (W : World) :
    (Instr.sliceAt t (.slice A n c) (some (.int ki i)) none none).run P W = .ok (.slice (cutN sz A i c) (n - i) (c - i)) W := by
  obtain ⟨x, hx, hx2⟩ := Option.map_eq_some_iff.1 hs
  have hel : P.elem t = e := by simp [Program.elem, ht]
  have ht2 : P.underlying t = some (.slice (P.elem t)) := by rw [hel]; exact ht
  rw [run_sliceAt_slice W t _ _ _ _ ht2, run_slice_l W t A n c ht2 ki i (by omega) (by omega), hel]
  simp [sizeOf, typeInfo, hx, hx2, Result.andThen, sliced, cutN]
theorem run_cutNH (ht : P.underlying t = some (.slice e)) (hs : (P.info? e).map (·.size) = some sz) (A : Option Addr) (n c : Nat) {kj : IntKind} (j : Nat) (hj : j ≤ c) (W : World) :
    (Instr.sliceAt t (.slice A n c) none (some (.int kj j)) none).run P W = .ok (.slice (cutN sz A 0 c) j c) W := by
  obtain ⟨x, hx, hx2⟩ := Option.map_eq_some_iff.1 hs
  have hel : P.elem t = e := by simp [Program.elem, ht]
  have ht2 : P.underlying t = some (.slice (P.elem t)) := by rw [hel]; exact ht
  rw [run_sliceAt_slice W t _ _ _ _ ht2, run_slice_h W t A n c ht2 kj j (by omega) (by omega), hel]
  simp [sizeOf, typeInfo, hx, hx2, Result.andThen, sliced, cutN]
theorem run_clear_row (w : World) (ty : TypeId) (z : Value) (ht : P.underlying t = some (.slice e)) (hv : ∀ w, (zeroValue e).run P w = .ok z w) (hz : z.cells.size = sz) (h1 : ∀ u ∈ z.cells, u.oneCell' = true) (b o n c : Nat) {cur : Array Value} {te : TypeId} (hg : w.heap[b]? = some (.cells cur te (0, 0)))
    (hn : 0 < n) (hsz : 0 < sz) (hfit : o + n * sz ≤ cur.size) :
    ∃ cur', (Builtin.clear_ #[t] ty #[.slice (some ⟨b, o, none⟩) n c]).run P w = .ok (.tuple #[]) (w.setRow b cur') ∧ cur'.size = cur.size ∧ cur'.toList.take o = cur.toList.take o := by
  have hzl : (Builtin.zeroCells z.cells n).toList.length = n * sz := by simp [Builtin.zeroCells, hz]
  have hz1 : ∀ u ∈ (Builtin.zeroCells z.cells n).toList, u.oneCell' = true := by
    intro u hu
    simp only [Builtin.zeroCells, Array.mem_toList_iff, Array.mem_map, Array.mem_range] at hu
    obtain ⟨i, hi, rfl⟩ := hu
    have hlt : i % z.cells.size < z.cells.size := Nat.mod_lt _ (by omega)
    rw [getElem!_pos z.cells _ hlt]
    exact h1 _ (Array.getElem_mem _)
  have hst := run_storeCells_at P b o te (Builtin.zeroCells z.cells n).toList 0 cur w hg (by rw [hzl]; simpa using hfit) hz1
  obtain ⟨zl, hzlE⟩ : ∃ zl, zl = (Builtin.zeroCells z.cells n).toList := ⟨_, rfl⟩
  rw [← hzlE] at hzl hst
  simp only [Nat.add_zero] at hst
  refine ⟨(List.take o cur.toList ++ zl ++ List.drop (o + zl.length) cur.toList).toArray, ?_, ?_, ?_⟩
  · obtain ⟨m, rfl⟩ : ∃ m, n = m + 1 := ⟨n - 1, by omega⟩
    simp [Builtin.clear_, run_underlying ht, hv, ← hzlE, hst]
  · simp [hzl]; omega
  · have : o ≤ cur.toList.length := by rw [Array.length_toList]; omega
    rw [List.append_assoc, List.take_append_of_le_length (by rw [List.length_take]; omega), List.take_take, Nat.min_self]
end
end Go.Proofs.Ytpndkelbchjkiaa
