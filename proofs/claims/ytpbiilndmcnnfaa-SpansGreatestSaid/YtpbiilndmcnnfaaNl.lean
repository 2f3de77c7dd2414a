/- Spans: awake, and the walk of the law SpansNil. -/
import Derived.Test.YtpbiilndmcnnfaaCh
import Derived.Lib.SmallJoins
import Derived.Deep.Slices
import Derived.Deep.Strs
set_option linter.unusedVariables false
set_option linter.unusedSimpArgs false
namespace Go.Proofs.Ytpbiilndmcnnfaa
open Go.RowKit Go.Ps

theorem awake_any (w : World) : Calls Try.prog 6 #[] w fun e w' => e = .returned (.bool true) ∧ Below w.heap.size w w' := by
  have hch : ∀ (W : World) (b : Nat), SRep W b (.slice none 0 0) (.slice none 0 0) [] [] → Calls Try.prog 9 #[.pointer (some ⟨b, 0, none⟩), .int .i64 1, .int .u64 5] W fun e w' => e = .returned (.tuple #[.int .u64 5, .int .i64 0]) ∧ ∃ v2', SRep w' b (.slice none 0 0) v2' [] [5] ∧ Chg (fun k => k = b) W w' := by
    intro W b h
    refine (charge_any 1 5 W b _ _ [] [] h (by simp) (by simp) ⟨by omega, by omega⟩).mono ?_
    rintro e w' ⟨v2', he, hs, hc, _⟩
    refine ⟨by rw [he]; rfl, v2', hs, hc.mono (fun k _ hk => ?_)⟩
    rcases hk with rfl | hk | hk
    · rfl
    · simp [Value.ownBlock] at hk
    · simp [Value.ownBlock] at hk
  go_enter Try.func6, Try.ntmps6
  go_wp2_with (first | (go_at_call 7; refine (new_any w).mono ?_; rintro e w1 ⟨b, rfl, hs, hb, hc1⟩) | (go_at_call 9; refine (hch _ _ hs).mono ?_; rintro e w2 ⟨rfl, v2', hs2, hc2⟩) | (go_at_call 15; refine (len_any _ _ _ _ _ _ hs2).mono ?_; rintro e w3 ⟨rfl, rfl⟩))
  go_ret
  exact ⟨by simp, (hc1.trans hc2 (fun j hj hg' => by omega)).below (fun k hk => ⟨hk, id⟩)⟩

theorem spansNil_any (k x n : Int) (w : World) : Calls Try.prog 5 #[.agg #[.int .i64 k, .int .i64 x, .int .u64 n]] w fun e w' => e = .returned (.bool true) ∧ Below w.heap.size w w' := by
  go_enter Try.func5, Try.ntmps5
  go_wp2_with (first | (go_at_call 6; refine (awake_any _).mono ?_; rintro e w1 ⟨rfl, hb⟩; have f0 := hb.cell (p := ⟨w.heap.size, 0, none⟩) (by simp); have f1 := hb.cell (p := ⟨w.heap.size, 1, none⟩) (by simp); have f2 := hb.cell (p := ⟨w.heap.size, 2, none⟩) (by simp)) | (go_at_call 9; refine (charge_nil _ _ _).mono ?_; rintro e w2 ⟨rfl, rfl⟩) | (go_at_call 11; refine (end_nil x _).mono ?_; rintro e w3 ⟨rfl, nq, rfl⟩) | (go_at_call 13; refine (span_nil x _).mono ?_; rintro e w3 ⟨rfl, rfl⟩) | (go_at_call 15; refine (len_nil _).mono ?_; rintro e w3 ⟨rfl, rfl⟩) | (go_at_call 16; refine (charged_nil x _).mono ?_; rintro e w3 ⟨rfl, rfl⟩))
  go_ret
  exact ⟨by simp, ((((Below.refl _ _).alloc (Nat.le_refl _) _).trans (hb.mono (by simp))).trans (Go.Joins.below_draws _ _ _))⟩
section
open Go.Joins Go.WideShapes
variable {H : Type} {enc : TypeId × Value → H} {W : World} {base : Nat} {spare : Nat → Bool} {held : Bool}
theorem open_op {r : Reach} {b0 : Nat} {v : Value} {d : DataW H} {p : List MemPlace} (hv : Value.okWide Try.prog W r b0 34 v) (h : DataW.Trod enc Try.prog W base spare held 34 v d p) :
    ∃ z : Int × Int × Int, v = .agg #[.int .i64 z.1, .int .i64 z.2.1, .int .u64 z.2.2] ∧ ((Lit.int .i64 z.1).wf = true ∧ (Lit.int .i64 z.2.1).wf = true ∧ (Lit.int .u64 z.2.2).wf = true) := by
  obtain ⟨v0, v1, v2, y0, y1, y2, n, rfl, _, _, h0, h1, h2⟩ := open_agg3 Try.underlying34 (by kernel_rfl) (by kernel_rfl) hv h
  obtain ⟨a0, e0, _, w0⟩ := DataW.trod_int Try.underlying3 h0
  obtain ⟨a1, e1, _, w1⟩ := DataW.trod_int Try.underlying3 h1
  obtain ⟨a2, e2, _, w2⟩ := DataW.trod_int Try.underlying32 h2
  simp only [List.cons.injEq, and_true] at e0 e1 e2
  subst e0 e1 e2
  exact ⟨(a0, a1, a2), rfl, w0, w1, w2⟩
end
theorem spansNil_walk (z : Int × Int × Int) (w : World) (hz : (Lit.int .i64 z.1).wf = true ∧ (Lit.int .i64 z.2.1).wf = true ∧ (Lit.int .u64 z.2.2).wf = true) :
    Calls Try.prog 5 #[.agg #[.int .i64 z.1, .int .i64 z.2.1, .int .u64 z.2.2]] w fun e w' => e = .returned (.bool true) ∧ Below w.heap.size w w' := spansNil_any z.1 z.2.1 z.2.2 w
end Go.Proofs.Ytpbiilndmcnnfaa
