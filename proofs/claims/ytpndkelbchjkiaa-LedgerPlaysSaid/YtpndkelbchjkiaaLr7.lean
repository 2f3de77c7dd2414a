/- Accounts of both packages compared. -/
import Derived.Test.YtpndkelbchjkiaaLr6
set_option linter.unusedVariables false
set_option linter.unusedSimpArgs false
namespace Go.Proofs.Ytpndkelbchjkiaa
open Go.RowKit Go.Ps
def acv (a : Ac) (A : Option Addr) (c : Nat) : Value := .agg #[.int .u64 a.free, .int .u64 a.bonded, .int .u64 a.dep, .slice A a.ch.length c]
set_option maxRecDepth 20000 in
set_option maxHeartbeats 4000000 in
theorem sameacc_any {w : World} (a : Ac) {A B : Option Addr} {c d : Nat} (h1 : OwnF w 94 2 fch (.slice A a.ch.length c) a.ch) (h2 : OwnF w 94 2 fch (.slice B a.ch.length d) a.ch) (hl : a.ch.length ≤ 900) :
    Calls Try.prog 54 #[acv a A c, acv a B d] w fun e w' => e = .returned (.bool true) ∧ Chg (fun _ => False) w w' := by
  unfold acv
  obtain ⟨fr, bo, de, ch⟩ := a
  simp only at h1 h2 hl ⊢
  obtain ⟨cn, hcn⟩ : ∃ n, n = ch.length := ⟨_, rfl⟩
  rw [← hcn] at h1 h2 hl ⊢
  have HO := Lib.hid (⟨h1, h2, hcn⟩ : _ ∧ _ ∧ _)
  obtain ⟨q1, hq1⟩ : ∃ q, q = w.heap.size := ⟨_, rfl⟩
  have hC1 : Chg (fun _ => False) w (w.alloc (.cells #[.int .u64 fr, .int .u64 bo, .int .u64 de, .slice A cn c] 82)) := (Chg.refl _ w).alloc _
  have k1 : (w.alloc (.cells #[.int .u64 fr, .int .u64 bo, .int .u64 de, .slice A cn c] 82)).heap[q1]? = some (.cells #[.int .u64 fr, .int .u64 bo, .int .u64 de, .slice A cn c] 82 (0, 0)) := by rw [hq1]; exact heap_alloc_at _ _
  have hC2 : Chg (fun _ => False) w ((w.alloc (.cells #[.int .u64 fr, .int .u64 bo, .int .u64 de, .slice A cn c] 82)).alloc (.cells #[.int .u64 fr, .int .u64 bo, .int .u64 de, .slice B cn d] 82)) := hC1.alloc _
  have k1' : ((w.alloc (.cells #[.int .u64 fr, .int .u64 bo, .int .u64 de, .slice A cn c] 82)).alloc (.cells #[.int .u64 fr, .int .u64 bo, .int .u64 de, .slice B cn d] 82)).heap[q1]? = some (.cells #[.int .u64 fr, .int .u64 bo, .int .u64 de, .slice A cn c] 82 (0, 0)) := heap_alloc_ne k1
  have k2 : ((w.alloc (.cells #[.int .u64 fr, .int .u64 bo, .int .u64 de, .slice A cn c] 82)).alloc (.cells #[.int .u64 fr, .int .u64 bo, .int .u64 de, .slice B cn d] 82)).heap[q1 + 1]? = some (.cells #[.int .u64 fr, .int .u64 bo, .int .u64 de, .slice B cn d] 82 (0, 0)) := by
    have := heap_alloc_at (w.alloc (.cells #[.int .u64 fr, .int .u64 bo, .int .u64 de, .slice A cn c] 82)) (.cells #[.int .u64 fr, .int .u64 bo, .int .u64 de, .slice B cn d] 82)
    rw [show (w.alloc (.cells #[.int .u64 fr, .int .u64 bo, .int .u64 de, .slice A cn c] 82)).heap.size = q1 + 1 by rw [hq1]; simp] at this
    exact this
  obtain ⟨W2, hW2⟩ : ∃ W, (w.alloc (.cells #[.int .u64 fr, .int .u64 bo, .int .u64 de, .slice A cn c] 82)).alloc (.cells #[.int .u64 fr, .int .u64 bo, .int .u64 de, .slice B cn d] 82) = W := ⟨_, rfl⟩
  rw [hW2] at hC2 k1' k2
  obtain ⟨x0, x1, x2, x3⟩ := read4 k1'
  obtain ⟨y0, y1, y2, y3⟩ := read4 k2
  have HK := Lib.hid (⟨hC2, k1', k2, hW2, hq1⟩ : _ ∧ _ ∧ _ ∧ _ ∧ _)
  clear h1 h2 hcn hC1 k1 hC2 k1' k2 hW2 hq1
  go_enter Try.func54, Try.ntmps54
  go_upto_region 1 with (fail)
  rw [HK.out.2.2.2.1]
  try simp only [World.size_alloc]
  rw [← HK.out.2.2.2.2]
  go_wp2
  go_loopw [37] (fun i wr => ∃ t : Nat, t ≤ cn ∧ i = .int .i64 t ∧ Hid (Chg (fun _ => False) W2 wr)) (fun i _ => cn - (intOf i).toNat)
  case atStart => exact ⟨0, by omega, rfl, Lib.hid (Chg.refl _ _)⟩
  case round =>
    obtain ⟨t, ht, rfl, HC⟩ := hrel
    by_cases ht2 : t < cn
    · obtain ⟨h1, h2, hcn⟩ := HO.out
      obtain ⟨hC2, k1', k2, -, -⟩ := HK.out
      have hCr := hC2.trans HC.out (fun _ _ h => h)
      obtain ⟨bx, cx, e6, _, _, v0, v1, _⟩ := ownC_cells (h1.chg hCr (fun _ _ => id)) (k := t) (by omega)
      obtain ⟨by', cy, e7, _, _, u0, u1, _⟩ := ownC_cells (h2.chg hCr (fun _ _ => id)) (k := t) (by omega)
      rw [← hcn] at e6 e7
      simp only [Value.slice.injEq] at e6 e7
      obtain ⟨rfl, -, rfl⟩ := e6
      obtain ⟨rfl, -, rfl⟩ := e7
      have z3 := (read4 (chg_heap0 HC.out k1')).2.2.2
      have z4 := (read4 (chg_heap0 HC.out k2)).2.2.2
      obtain ⟨x, hx⟩ : ∃ x, x = ch.getD t d0 := ⟨_, rfl⟩
      rw [← hx] at v0 v1 u0 u1
      clear h1 h2 hcn hC2 k1' k2 hCr hx x0 x1 x2 x3 y0 y1 y2 y3
      go_wp2
      refine J.wp_region_seq (fun W => (W.cell? ⟨q1, 3, none⟩ = some (.slice (some ⟨bx, 0, none⟩) cn c) ∧ W.cell? ⟨q1 + 1, 3, none⟩ = some (.slice (some ⟨by', 0, none⟩) cn d)) ∧ (W.cell? ⟨bx, t * 2, none⟩ = some (.int .u64 x.1) ∧ W.cell? ⟨bx, t * 2 + 1, none⟩ = some (.int .i64 x.2)) ∧ W.cell? ⟨by', t * 2, none⟩ = some (.int .u64 x.1) ∧ W.cell? ⟨by', t * 2 + 1, none⟩ = some (.int .i64 x.2)) [(0, 0), (1, 0), (2, 0), (3, 0), (4, 0), (5, 0), (6, 0), (7, 0), (8, 0), (9, 0), (10, 0)] (by kernel_rfl) (by kernel_rfl) (by kernel_rfl) ⟨⟨z3, z4⟩, ⟨v0, v1⟩, u0, u1⟩ ?_
      iterate 10 (apply J.look (by rfl) (by rfl); (focus (intro W hW; obtain ⟨⟨hW0, hW1⟩, ⟨hW2, hW3⟩, hW4, hW5⟩ := hW; go_simp; exact HasV.val rfl)); simp only [Act.put, List.setIfInBounds_toArray, List.set_cons_zero, List.set_cons_succ])
      apply J.look (v := .bool false) (by rfl) (by rfl)
      · intro W hW
        go_simp
        first | exact HasV.val rfl | trace_state
      simp only [Act.put, List.setIfInBounds_toArray, List.set_cons_zero, List.set_cons_succ]
      refine J.fin ?_
      go_wp2
      go_roundw
      case rel => exact ⟨t + 1, by omega, by go_num, Lib.hid (HC.out.drew)⟩
      case measure => simp [intOf]; omega
    · have et : t = cn := by omega
      subst et
      have hfin := Lib.hid (HK.out.1.trans HC.out (fun _ _ h => h))
      clear x0 x1 x2 x3 y0 y1 y2 y3
      go_wp2
      go_ret
      exact ⟨rfl, hfin.out⟩
end Go.Proofs.Ytpndkelbchjkiaa
