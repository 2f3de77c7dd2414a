/- Solutions: the opening of one by value, and the law SolutionEncodes. -/
import Derived.Test.YtcdbchdlenkdgaaSk
import Derived.Test.YtcdbchdlenkdgaaSd
import Derived.Test.YtcdbchdlenkdgaaCw
set_option linter.unusedVariables false
set_option linter.unusedSimpArgs false
namespace Go.Proofs.Ytcdbchdlenkdgaa
open Go.RowKit Go.Ps

/-- A solution and where its slices lie. -/
structure Sm where
  x : Sol
  A : Option Addr
  c : Nat
  B : Option Addr
  d : Nat
def Sm.v (z : Sm) : Value := sv z.x z.A z.c z.B z.d
section
open Go.Joins Go.WideShapes
variable {H : Type} {enc : TypeId × Value → H} {W : World} {base : Nat} {spare : Nat → Bool} {held : Bool}
theorem list6 {cs : List Value} (h : cs.length = 6) : ∃ v0 v1 v2 v3 v4 v5, cs = [v0, v1, v2, v3, v4, v5] := by
  match cs, h with
  | [v0, v1, v2, v3, v4, v5], _ => exact ⟨v0, v1, v2, v3, v4, v5, rfl⟩
theorem edges_of {fuel : Nat} {v : Value} {x : DataW H × List MemPlace} (h : DataW.trod enc Try.prog W base spare held fuel 45 [v] = some x) :
    ∃ (A : Option Addr) (c : Nat) (zs : List (Int × Int × Int)), v = .slice A zs.length c ∧ Reads3 W .i64 .i64 .u64 A zs ∧ ∀ z ∈ zs, okE z := by
  have hs : ∃ A n c, v = .slice A n c := by
    rcases Go.Deep.open_slice Try.underlying45 h with ⟨hcs, _⟩ | ⟨y, l, c, m, n, D, Pl, hcs, _⟩
    · simp only [List.cons.injEq, and_true] at hcs
      exact ⟨_, _, _, hcs⟩
    · simp only [List.cons.injEq, and_true] at hcs
      exact ⟨_, _, _, hcs⟩
  obtain ⟨A, n, c, rfl⟩ := hs
  have hT : DataW.Trod enc Try.prog W base spare held 45 (.slice A n c) x.1 x.2 := ⟨fuel, by simpa [Value.cells] using h⟩
  obtain ⟨zs, rfl, hr, hw⟩ := open_reads3 Try.underlying45 Try.underlying74 (by kernel_rfl) rfl rfl rfl (by kernel_rfl) (by kernel_rfl) (by kernel_rfl) Try.underlying3 Try.underlying3 Try.underlying24 hT
  refine ⟨A, c, zs, rfl, hr, fun z hz => ?_⟩
  obtain ⟨a, b, c⟩ := hw z hz
  exact ⟨i64_of_wf a, i64_of_wf b, u64_of_wf c⟩
theorem open_sol {r : Reach} {b0 : Nat} {v : Value} {d : DataW H} {p : List MemPlace} (hv : Value.okWide Try.prog W r b0 49 v) (h : DataW.Trod enc Try.prog W base spare held 49 v d p) :
    ∃ z : Sm, v = z.v ∧ z.x.ok ∧ ReadsI W .i64 z.A z.x.com ∧ Reads3 W .i64 .i64 .u64 z.B z.x.edges := by
  obtain ⟨cs, rfl, hsz⟩ := okWide_struct Try.underlying49 hv
  obtain ⟨fuel, hf⟩ := h
  obtain ⟨xs, n, _, _, hl, hlen, hq⟩ := DataW.trod_struct Try.underlying49 hf
  have h6 : cs.toList.length = 6 := by rw [Array.length_toList, hsz]; kernel_rfl
  obtain ⟨v0, v1, v2, v3, v4, v5, hcs⟩ := list6 h6
  obtain rfl : cs = #[v0, v1, v2, v3, v4, v5] := by cases cs; simp_all
  have k24 : Try.prog.cellsOf 24 = 1 := by kernel_rfl
  have k44 : Try.prog.cellsOf 44 = 1 := by kernel_rfl
  have k45 : Try.prog.cellsOf 45 = 1 := by kernel_rfl
  have k47 : Try.prog.cellsOf 47 = 4 := by kernel_rfl
  have hx : ∃ y0 y1 y2, xs = [y0, y1, y2] := by
    match xs, hlen with
    | [y0, y1, y2], _ => exact ⟨y0, y1, y2, rfl⟩
  obtain ⟨y0, y1, y2, rfl⟩ := hx
  have q0 : DataW.trod enc Try.prog W base spare held n 44 [v0] = some y0 := by simpa [Value.cells, k24, k44, k45, k47] using hq 0 _ rfl
  have q1 : DataW.trod enc Try.prog W base spare held n 45 [v1] = some y1 := by simpa [Value.cells, k24, k44, k45, k47] using hq 1 _ rfl
  have q2 : DataW.trod enc Try.prog W base spare held n 47 [v2, v3, v4, v5] = some y2 := by simpa [Value.cells, k24, k44, k45, k47] using hq 2 _ rfl
  obtain ⟨xs2, n2, _, _, hl2, hlen2, hq2⟩ := DataW.trod_struct Try.underlying47 q2
  have hx2 : ∃ y0 y1 y2 y3, xs2 = [y0, y1, y2, y3] := by
    match xs2, hlen2 with
    | [y0, y1, y2, y3], _ => exact ⟨y0, y1, y2, y3, rfl⟩
  obtain ⟨z0, z1, z2, z3, rfl⟩ := hx2
  have r0 : DataW.trod enc Try.prog W base spare held n2 24 [v2] = some z0 := by simpa [Value.cells, k24] using hq2 0 _ rfl
  have r1 : DataW.trod enc Try.prog W base spare held n2 24 [v3] = some z1 := by simpa [Value.cells, k24] using hq2 1 _ rfl
  have r2 : DataW.trod enc Try.prog W base spare held n2 24 [v4] = some z2 := by simpa [Value.cells, k24] using hq2 2 _ rfl
  have r3 : DataW.trod enc Try.prog W base spare held n2 24 [v5] = some z3 := by simpa [Value.cells, k24] using hq2 3 _ rfl
  obtain ⟨a0, e0, _, w0⟩ := DataW.trod_int Try.underlying24 r0
  obtain ⟨a1, e1, _, w1⟩ := DataW.trod_int Try.underlying24 r1
  obtain ⟨a2, e2, _, w2⟩ := DataW.trod_int Try.underlying24 r2
  obtain ⟨a3, e3, _, w3⟩ := DataW.trod_int Try.underlying24 r3
  simp only [List.cons.injEq, and_true] at e0 e1 e2 e3
  subst e0 e1 e2 e3
  obtain ⟨A, c, l, rfl, hc, hA, hwl⟩ := reads_of Try.underlying44 Try.underlying3 (by kernel_rfl) q0
  obtain ⟨B, d2, m, rfl, hB, hwm⟩ := edges_of q1
  refine ⟨⟨⟨l, m, a0, a1, a2, a3⟩, A, c, B, d2⟩, rfl, ⟨fun n hn => i64_of_wf (hwl n hn), hwm, u64_of_wf w0, u64_of_wf w1, u64_of_wf w2, u64_of_wf w3⟩, hA, hB⟩
end
end Go.Proofs.Ytcdbchdlenkdgaa
