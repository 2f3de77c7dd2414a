/- Compact numbers: awake, and the law CompactTakes. -/
import Derived.Test.YtcdbchdlenkdgaaRt
import Derived.Lib.SmallJoins
set_option linter.unusedVariables false
set_option linter.unusedSimpArgs false
namespace Go.Proofs.Ytcdbchdlenkdgaa
open Go.RowKit Go.Ps

theorem open_cap {H : Type} {enc : TypeId × Value → H} {P : Program} {W : World} {base : Nat} {spare : Nat → Bool} {held : Bool} {t e : TypeId} {a : Option Addr} {len cap : Nat} {d : DataW H} {ps : List MemPlace}
    (hu : P.underlying t = some (.slice e)) (h : DataW.Trod enc P W base spare held t (.slice a len cap) d ps) : len ≤ cap := by
  obtain ⟨fuel, hf⟩ := h
  rcases Go.Deep.open_slice hu hf with ⟨hcs, _⟩ | ⟨x, l, c, m, n, D, Pl, hcs, _, hl, hm, hmm, hx, hel⟩
  · simp [Value.cells] at hcs
    obtain ⟨rfl, rfl, rfl⟩ := hcs
    exact Nat.le_refl _
  · simp [Value.cells] at hcs
    obtain ⟨rfl, rfl, rfl⟩ := hcs
    exact hl
theorem bytes_of_wf {l : List Int} (h : ∀ x ∈ l, (Lit.int .u8 x).wf = true) : Bytes l := fun x hx => by
  have := h x hx
  simp [Lit.wf, IntKind.min, IntKind.max, IntKind.signed, IntKind.bits] at this
  omega
theorem u64_of_wf {n : Int} (h : (Lit.int .u64 n).wf = true) : U64' n := by
  have := Go.bounds_u64 h
  exact ⟨by omega, by omega⟩
theorem awake_any (w : World) : Calls Try.prog 16 #[] w fun e w' => e = .returned (.bool true) ∧ Below w.heap.size w w' := by
  have h1 : Calls Try.prog 17 #[.slice (some ⟨w.heap.size, 0, none⟩) 1 1] (w.alloc (.cells #[.int .u8 4] 5)) (TkPost [4] (w.alloc (.cells #[.int .u8 4] 5))) :=
    take_any _ _ 1 [4] (ReadsI.of_block (l := [4]) (heap_alloc_at w (.cells #[.int .u8 4] 5))) (by simp [Bytes]) (by simp) (by simp)
  have e4 : tk [4] = (1, 1, 0) := by decide
  have h2 : ∀ W, Calls Try.prog 24 #[.int .u64 64] W fun e w' => e = .returned (.int .i64 2) ∧ W = w' := fun W => size_any 64 W ⟨by omega, by omega⟩
  unfold TkPost at h1
  rw [e4] at h1
  go_enter Try.func16, Try.ntmps16
  go_wp2_with (first | (go_at_call 17; refine h1.mono ?_; rintro e w1 ⟨rfl, n1, rfl⟩) | (go_at_call 24; refine (h2 _).mono ?_; rintro e w2 ⟨rfl, rfl⟩))
  go_ret
  exact ⟨by simp, Go.Joins.below_draws _ _ _ |> fun h => ((Below.refl w.heap.size w).alloc (Nat.le_refl _) _).trans h⟩
theorem compactTakes_walk (A : Option Addr) (c : Nat) (l : List Int) (w : World) (hr : ReadsI w .u8 A l) (hw : ∀ x ∈ l, (Lit.int .u8 x).wf = true) (hy : l.length * 1 ≤ 140737488351232) (hc : l.length ≤ c) :
    Calls Try.prog 3 #[.slice A l.length c] w fun e w' => e = .returned (.bool true) ∧ Below w.heap.size w w' := by
  have hb := bytes_of_wf hw
  have h17 : ∀ W, Below w.heap.size w W → Calls Try.prog 17 #[.slice A l.length c] W (TkPost l W) := fun W hW => take_any W A c l (hr.below hW) hb (by omega) hc
  have h18 : ∀ W, Below w.heap.size w W → Calls Try.prog 18 #[.slice A l.length c] W (RTkPost l W) := fun W hW => rtake_any W A c l (hr.below hW) hb (by omega) hc
  obtain ⟨⟨n, k, e⟩, ht⟩ : ∃ t, t = tk l := ⟨_, rfl⟩
  unfold TkPost at h17
  unfold RTkPost at h18
  rw [← ht] at h17 h18
  clear hr hw hb ht hy
  go_enter Try.func3, Try.ntmps3
  go_wp2_with (first | (go_at_call 16; refine (awake_any w).mono ?_; rintro e1 w1 ⟨rfl, hb1⟩) | (go_at_call 17; refine (h17 _ hb1).mono ?_; rintro e2 w2 ⟨rfl, n1, rfl⟩; have hb2 := hb1.trans ((Go.Joins.below_draws _ w1 n1).mono hb1.size)) | (go_at_call 18; refine (h18 _ hb2).mono ?_; rintro e3 w3 ⟨rfl, hc3⟩))
  go_ret
  exact ⟨by simp, chg_below hb2 hc3 (fun _ h => absurd h id) hb2.size⟩
end Go.Proofs.Ytcdbchdlenkdgaa
