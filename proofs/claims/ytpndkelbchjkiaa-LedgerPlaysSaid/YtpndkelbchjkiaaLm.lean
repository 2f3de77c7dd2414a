/- The law LedgerNil: awake, Account of nil. -/
import Derived.Test.YtpndkelbchjkiaaLs
import Derived.Test.YtpndkelbchjkiaaK3
set_option linter.unusedVariables false
set_option linter.unusedSimpArgs false
namespace Go.Proofs.Ytpndkelbchjkiaa
open Go.RowKit Go.Ps
theorem account_nil (a : Int) (w : World) : Calls Try.prog 12 #[.pointer none, .int .i64 a] w (NoPost (.tuple #[.agg #[.int .u64 0, .int .u64 0, .int .u64 0, .slice none 0 0], .bool false]) w) := by
  go_enter Try.func12, Try.ntmps12
  go_wp2_with fail
  refine (find_nil _ _).mono ?_
  rintro e w1 ⟨rfl, hC⟩
  have c : w1.heap[w.heap.size]? = some (.cells #[.int .u64 0, .int .u64 0, .int .u64 0, .slice none 0 0] 34) := by
    exact chg_heap0 hC (heap_alloc_ne (heap_alloc_at _ _))
  have hC' : Chg (fun _ => False) w w1 := Chg.trans (by repeat (first | exact Chg.refl _ _ | apply Chg.alloc)) hC (fun _ _ => id)
  have HC := Lib.hid hC'
  have hl := heap_lt c
  obtain ⟨g, hg⟩ : ∃ g, g = w.heap.size := ⟨_, rfl⟩
  rw [← hg] at c ⊢
  have HG := Lib.hid hg
  obtain ⟨x0, x1, x2, x3⟩ := read4 c
  have y0 := frozen_of c 0
  have y1 := frozen_of c 1
  have y2 := frozen_of c 2
  have y3 := frozen_of c 3
  clear hC hC' hg
  go_wp2
  refine bodyPost_ret (v := .tuple #[.agg #[.int .u64 0, .int .u64 0, .int .u64 0, .slice none 0 0], .bool false]) ?_ rfl ⟨rfl, ?_⟩
  · simp [results, Try.results12, go_sem, x0, x1, x2, x3]
  · have hn : g < w.heap.size → False := fun h => by have := HG.out; omega
    exact (((HC.out.setCell (p := ⟨g, 0, none⟩) hn _).setCell (p := ⟨g, 1, none⟩) hn _).setCell (p := ⟨g, 2, none⟩) hn _).setCell (p := ⟨g, 3, none⟩) hn _
theorem accounts_any {w : World} {g : Nat} {V : Value} {L : List Row} {tre pot iss : Int} (h : LAt w g V L tre pot iss) : Calls Try.prog 28 #[.pointer (some ⟨g, 0, none⟩)] w fun e w' => e = .returned (.int .i64 L.length) ∧ w = w' := by
  obtain ⟨A, c, rfl, _⟩ := h.rows.form
  obtain ⟨x0, x1, x2, x3⟩ := read4 h.cell
  obtain ⟨n, hn⟩ : ∃ n, n = L.length := ⟨_, rfl⟩
  rw [← hn] at x0
  try rw [← hn]
  clear h hn
  go_enter Try.func28, Try.ntmps28
  go_wp2
  go_ret
  exact ⟨rfl, rfl⟩
theorem treasury_any {w : World} {g : Nat} {V : Value} {L : List Row} {tre pot iss : Int} (h : LAt w g V L tre pot iss) : Calls Try.prog 16 #[.pointer (some ⟨g, 0, none⟩)] w fun e w' => e = .returned (.int .u64 tre) ∧ w = w' := by
  obtain ⟨A, c, rfl, _⟩ := h.rows.form
  obtain ⟨x0, x1, x2, x3⟩ := read4 h.cell
  obtain ⟨n, hn⟩ : ∃ n, n = L.length := ⟨_, rfl⟩
  rw [← hn] at x0
  try rw [← hn]
  clear h hn
  go_enter Try.func16, Try.ntmps16
  go_wp2
  go_ret
  exact ⟨rfl, rfl⟩
theorem pot_any {w : World} {g : Nat} {V : Value} {L : List Row} {tre pot iss : Int} (h : LAt w g V L tre pot iss) : Calls Try.prog 29 #[.pointer (some ⟨g, 0, none⟩)] w fun e w' => e = .returned (.int .u64 pot) ∧ w = w' := by
  obtain ⟨A, c, rfl, _⟩ := h.rows.form
  obtain ⟨x0, x1, x2, x3⟩ := read4 h.cell
  obtain ⟨n, hn⟩ : ∃ n, n = L.length := ⟨_, rfl⟩
  rw [← hn] at x0
  try rw [← hn]
  clear h hn
  go_enter Try.func29, Try.ntmps29
  go_wp2
  go_ret
  exact ⟨rfl, rfl⟩
theorem issuance_any {w : World} {g : Nat} {V : Value} {L : List Row} {tre pot iss : Int} (h : LAt w g V L tre pot iss) : Calls Try.prog 14 #[.pointer (some ⟨g, 0, none⟩)] w fun e w' => e = .returned (.int .u64 iss) ∧ w = w' := by
  obtain ⟨A, c, rfl, _⟩ := h.rows.form
  obtain ⟨x0, x1, x2, x3⟩ := read4 h.cell
  obtain ⟨n, hn⟩ : ∃ n, n = L.length := ⟨_, rfl⟩
  rw [← hn] at x0
  try rw [← hn]
  clear h hn
  go_enter Try.func14, Try.ntmps14
  go_wp2
  go_ret
  exact ⟨rfl, rfl⟩
theorem awake_any (w : World) : Calls Try.prog 8 #[] w (NoPost (.bool true) w) := by
  have hn := new_any [5] (w.alloc (.cells #[.int .u64 5] 24)) (some ⟨w.heap.size, 0, none⟩) 1 (ReadsI.of_block (t := 24) (fr := (0, 0)) (heap_alloc_at _ _)) (by simp) (by intro x hx; simp at hx; subst hx; exact ⟨by omega, by omega⟩)
  unfold NewPost at hn
  rw [show sumU 0 [5] = (5, 0) by simp [sumU]] at hn
  simp only [List.length_cons, List.length_nil, Nat.zero_add, show ¬ 32 < 1 by omega, if_false, if_true] at hn
  go_enter Try.func8, Try.ntmps8
  go_wp2_with fail
  refine hn.mono ?_
  rintro e w1 ⟨g, V, rfl, hL, hC, _⟩
  have HL := Lib.hid hL
  have HC := Lib.hid (((Chg.refl (fun _ => False) w).alloc _).trans hC (fun _ _ => id))
  clear hn hL hC
  go_wp2_with fail
  refine (issuance_any HL.out).mono ?_
  rintro e w2 ⟨rfl, rfl⟩
  go_wp2_with fail
  refine (accounts_any HL.out).mono ?_
  rintro e w2 ⟨rfl, rfl⟩
  simp only [nuL, List.map_cons, List.map_nil, List.length_cons, List.length_nil]
  go_wp2
  go_ret
  exact ⟨rfl, HC.out⟩
end Go.Proofs.Ytpndkelbchjkiaa
