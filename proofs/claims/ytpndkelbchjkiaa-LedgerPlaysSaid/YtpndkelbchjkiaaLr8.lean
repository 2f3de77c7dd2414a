/- An account told, as the document's. -/
import Derived.Test.YtpndkelbchjkiaaLr7
set_option linter.unusedVariables false
set_option linter.unusedSimpArgs false
namespace Go.Proofs.Ytpndkelbchjkiaa
open Go.RowKit Go.Ps
set_option maxRecDepth 20000 in
set_option maxHeartbeats 4000000 in
theorem acct_any {w : World} (a : Ac) {A : Option Addr} {c : Nat} (h1 : OwnF w 38 2 fch (.slice A a.ch.length c) a.ch) (hl : a.ch.length ≤ 900) :
    Calls Try.prog 55 #[acv a A c] w fun e w' => ∃ A' c', e = .returned (acv a A' c') ∧ OwnF w' 94 2 fch (.slice A' a.ch.length c') a.ch ∧ Chg (fun _ => False) w w' := by
  unfold acv
  obtain ⟨fr, bo, de, ch⟩ := a
  simp only at h1 hl ⊢
  obtain ⟨cn, hcn⟩ : ∃ n, n = ch.length := ⟨_, rfl⟩
  rw [← hcn] at h1 hl ⊢
  have hO1 := h1
  obtain ⟨q1, hq1⟩ : ∃ q, q = w.heap.size := ⟨_, rfl⟩
  obtain ⟨W1, hW1⟩ : ∃ W, W = w.alloc (.cells #[.int .u64 fr, .int .u64 bo, .int .u64 de, .slice A cn c] 34) := ⟨_, rfl⟩
  have hC1 : Chg (fun _ => False) w W1 := by rw [hW1]; exact (Chg.refl _ w).alloc _
  have k1 : W1.heap[q1]? = some (.cells #[.int .u64 fr, .int .u64 bo, .int .u64 de, .slice A cn c] 34 (0, 0)) := by rw [hW1, hq1]; exact heap_alloc_at _ _
  obtain ⟨q2, hq2⟩ : ∃ q, q = W1.heap.size := ⟨_, rfl⟩
  obtain ⟨W2, hW2⟩ : ∃ W, W = W1.alloc (.cells #[.int .u64 0, .int .u64 0, .int .u64 0, .slice none 0 0] 82) := ⟨_, rfl⟩
  have hC2 : Chg (fun _ => False) W1 W2 := by rw [hW2]; exact (Chg.refl _ W1).alloc _
  have k2 : W2.heap[q2]? = some (.cells #[.int .u64 0, .int .u64 0, .int .u64 0, .slice none 0 0] 82 (0, 0)) := by rw [hW2, hq2]; exact heap_alloc_at _ _
  obtain ⟨q3, hq3⟩ : ∃ q, q = W2.heap.size := ⟨_, rfl⟩
  obtain ⟨W3, hW3⟩ : ∃ W, W = W2.alloc (.cells #[.int .u64 fr, .int .u64 bo, .int .u64 de, .slice none 0 0] 82) := ⟨_, rfl⟩
  have hC3 : Chg (fun _ => False) W2 W3 := by rw [hW3]; exact (Chg.refl _ W2).alloc _
  have k3 : W3.heap[q3]? = some (.cells #[.int .u64 fr, .int .u64 bo, .int .u64 de, .slice none 0 0] 82 (0, 0)) := by rw [hW3, hq3]; exact heap_alloc_at _ _
  have l1 := heap_lt k1
  have l2 := heap_lt k2
  have hC13 := hC2.trans hC3 (fun _ _ h => h)
  have hC03 := hC1.trans hC13 (fun _ _ h => h)
  have k1' := chg_heap0 hC13 k1
  have k2' := chg_heap0 hC3 k2
  have h12 : q1 ≠ q3 := by omega
  have h23 : q2 ≠ q3 := by omega
  have HK := Lib.hid (⟨h1.chg hC03 (fun _ _ => id), hC03, k1', k2', k3, hcn, h12, h23⟩ : _ ∧ _ ∧ _ ∧ _ ∧ _ ∧ _ ∧ _ ∧ _)
  have hq2' : w.heap.size + 1 = q2 := by rw [hq2, hW1]; simp
  have hq3' : w.heap.size + 1 + 1 = q3 := by rw [hq3, hW2, hW1]; simp
  have HW := Lib.hid (⟨hW1, hW2, hW3, hq1, hq2', hq3'⟩ : _ ∧ _ ∧ _ ∧ _ ∧ _ ∧ _)
  obtain ⟨x0, x1, x2, x3⟩ := read4 k1'
  have HQ := Lib.hid (⟨fun k hk e => (by have := h1.lt hk; omega : k ≠ q3), hq3, heap_lt k3⟩ : (∀ k, Value.ownBlock (.slice A cn c) = some k → True → k ≠ q3) ∧ _ ∧ _)
  clear h1 hO1 hcn hC1 k1 hC2 k2 hC3 k3 l1 l2 hC13 hC03 k1' k2' hW1 hW2 hW3 hq1 hq2 hq3 h12 h23 hq2' hq3'
  go_enter Try.func55, Try.ntmps55
  go_upto_region 2 with (fail)
  rw [← HW.out.1, ← HW.out.2.1, ← HW.out.2.2.1, HW.out.2.2.2.2.2, HW.out.2.2.2.2.1, ← HW.out.2.2.2.1]
  go_wp2
  go_loopw [15] (fun i wr => ∃ (t : Nat) (A5 : Option Addr) (n5 c5 : Nat), t ≤ cn ∧ i = .int .i64 t ∧ Hid (OwnF wr 94 2 fch (.slice A5 n5 c5) (ch.take t) ∧ Chg (fun k => k = q3) W3 wr ∧ (∀ j, Value.ownBlock (.slice A5 n5 c5) = some j → W3.heap.size ≤ j) ∧ wr.heap[q3]? = some (.cells #[.int .u64 fr, .int .u64 bo, .int .u64 de, .slice A5 n5 c5] 82 (0, 0)))) (fun i _ => cn - (intOf i).toNat)
  case atStart => exact ⟨0, none, 0, 0, by omega, rfl, Lib.hid ⟨OwnF.nil _ _ _ _, Chg.refl _ _, (fun j hj => by cases hj), HK.out.2.2.2.2.1⟩⟩
  case round =>
    obtain ⟨t, A5, n5, c5, ht, rfl, HR⟩ := hrel
    obtain ⟨hO, hCr, hown, k3⟩ := HR.out
    obtain ⟨h1, hC03, k1, k2, -, hcn, h12, h23⟩ := HK.out
    have k1r := (hCr.block q1 (heap_lt k1) h12).trans k1
    have hO1 := h1.chg hCr (fun k hk e => HQ.out.1 k hk trivial e)
    have z1 := (read4 k1r).2.2.2
    have z3 := (read4 k3).2.2.2
    by_cases ht2 : t < cn
    · obtain ⟨bx, cx, e6, _, _, v0, v1, _⟩ := ownC_cells hO1 (k := t) (by omega)
      rw [← hcn] at e6
      simp only [Value.slice.injEq] at e6
      obtain ⟨rfl, -, rfl⟩ := e6
      have htl : (ch.take t).length = t := by rw [List.length_take]; omega
      obtain ⟨A', c', e5, _⟩ := hO.form
      rw [htl] at e5
      simp only [Value.slice.injEq] at e5
      obtain ⟨rfl, rfl, rfl⟩ := e5
      obtain ⟨wd, hwd⟩ : ∃ W : World, wr.drew = W := ⟨_, rfl⟩
      have hCd : Chg (fun _ => False) wr wd := by rw [← hwd]; exact (Chg.refl _ _).drew
      obtain ⟨A6, c6, w2, hrun, ho, hg, hat⟩ := (hO.chg hCd (fun _ _ => id)).append1 (P := Try.prog) layC 80 Try.underlying80 info94 rfl (ch.getD n5 d0) (by omega) (by omega)
      rw [htl] at hrun ho hat
      rw [← take_snocC ch n5 (by omega)] at ho
      have hCg : Chg (fun k => Value.ownBlock (.slice A5 n5 c5) = some k) wd w2 := (Chg.refl _ wd).grown hg (fun k hk _ => hk)
      have hn3 : ¬ Value.ownBlock (.slice A5 n5 c5) = some q3 := fun e => by have := hown q3 e; have := HQ.out.2.2; omega
      have k3d := chg_heap0 hCd k3
      have k32 := (hCg.block q3 (heap_lt k3d) hn3).trans k3d
      have hc3 : Chg (fun k => k = q3) w2 (w2.setCell ⟨q3, 3, none⟩ (.slice A6 (n5 + 1) c6)) := Chg.setCell (F := fun k => k = q3) (p := ⟨q3, 3, none⟩) (Chg.refl _ _) (fun _ => rfl) _
      have hszr := hCr.size
      have hnext : Hid (OwnF (w2.setCell ⟨q3, 3, none⟩ (.slice A6 (n5 + 1) c6)) 94 2 fch (.slice A6 (n5 + 1) c6) (ch.take (n5 + 1)) ∧ Chg (fun k => k = q3) W3 (w2.setCell ⟨q3, 3, none⟩ (.slice A6 (n5 + 1) c6)) ∧ (∀ j, Value.ownBlock (.slice A6 (n5 + 1) c6) = some j → W3.heap.size ≤ j) ∧ (w2.setCell ⟨q3, 3, none⟩ (.slice A6 (n5 + 1) c6)).heap[q3]? = some (.cells #[.int .u64 fr, .int .u64 bo, .int .u64 de, .slice A6 (n5 + 1) c6] 82 (0, 0))) := Lib.hid (by
        have hown2 : ∀ j, Value.ownBlock (.slice A6 (n5 + 1) c6) = some j → W3.heap.size ≤ j := fun j hj => by
          rcases hat j hj with e | e
          · exact hown j e
          · have := hCd.size; omega
        refine ⟨ho.chg hc3 (fun k hk e => by have := hown2 k hk; have := HQ.out.2.2; omega), ?_, hown2, ?_⟩
        · exact ((hCr.trans hCd (fun _ _ h => h.elim)).trans hCg (fun k hk e => by have := hown k e; omega)).trans hc3 (fun _ _ h => h)
        · have := heap_setCell k32 3 (.slice A6 (n5 + 1) c6)
          simpa using this)
      have HWD := Lib.hid hwd
      obtain ⟨x, hx⟩ : ∃ x, x = ch.getD n5 d0 := ⟨_, rfl⟩
      rw [← hx] at v0 v1 hrun
      have hal : Chg (fun _ => False) wd (wd.alloc (.cells #[.int .u64 x.1, .int .i64 x.2] 94)) := (Chg.refl _ _).alloc _
      have hbx : ∀ k : Nat, k < W3.heap.size → k ≠ q3 → ∀ j v, wr.cell? ⟨k, j, none⟩ = some v → wd.cell? ⟨k, j, none⟩ = some v ∧ w2.cell? ⟨k, j, none⟩ = some v := fun k hk hk3 j v hv => by
        have h2 := chg_cell hCd hv id
        exact ⟨h2, chg_cell hCg h2 (fun e => by have := hown k e; omega)⟩
      have hb1 : bx < W3.heap.size := h1.lt rfl
      have hb2 : bx ≠ q3 := HQ.out.1 bx rfl trivial
      have hq1w : q1 < W3.heap.size := heap_lt k1
      have C0 : ∀ W, W = wr ∨ W = wd ∨ W = wd.alloc (.cells #[.int .u64 x.1, .int .i64 x.2] 94) ∨ W = w2 → (W.cell? ⟨q1, 3, none⟩ = some (.slice (some ⟨bx, 0, none⟩) cn c) ∧ W.cell? ⟨q3, 3, none⟩ = some (.slice A5 n5 c5)) ∧ W.cell? ⟨bx, n5 * 2, none⟩ = some (.int .u64 x.1) ∧ W.cell? ⟨bx, n5 * 2 + 1, none⟩ = some (.int .i64 x.2) := by
        have z3d := chg_cell hCd z3 id
        have z32 := cell_of k32 3 rfl
        intro W hW
        rcases hW with rfl | rfl | rfl | rfl
        · exact ⟨⟨z1, z3⟩, v0, v1⟩
        · exact ⟨⟨(hbx q1 hq1w h12 _ _ z1).1, z3d⟩, (hbx bx hb1 hb2 _ _ v0).1, (hbx bx hb1 hb2 _ _ v1).1⟩
        · exact ⟨⟨chg_cell hal (hbx q1 hq1w h12 _ _ z1).1 id, chg_cell hal z3d id⟩, chg_cell hal (hbx bx hb1 hb2 _ _ v0).1 id, chg_cell hal (hbx bx hb1 hb2 _ _ v1).1 id⟩
        · exact ⟨⟨(hbx q1 hq1w h12 _ _ z1).2, z32⟩, (hbx bx hb1 hb2 _ _ v0).2, (hbx bx hb1 hb2 _ _ v1).2⟩
      have f32 := frozen_of k32 3
      have z32 : w2.cell? ⟨q3, 3, none⟩ = some (.slice A5 n5 c5) := cell_of k32 3 rfl
      have C0 := Lib.hid C0
      clear hO hCr hown k3 h1 hC03 k1 k2 hcn h12 h23 k1r hO1 htl hCd ho hg hat hCg hn3 k3d k32 hc3 hszr hwd hx hal hbx hb1 hb2 hq1w
      go_wp2
      refine J.wp_region_seq (fun W => (W.cell? ⟨q1, 3, none⟩ = some (.slice (some ⟨bx, 0, none⟩) cn c) ∧ W.cell? ⟨q3, 3, none⟩ = some (.slice A5 n5 c5)) ∧ W.cell? ⟨bx, n5 * 2, none⟩ = some (.int .u64 x.1) ∧ W.cell? ⟨bx, n5 * 2 + 1, none⟩ = some (.int .i64 x.2)) [(0, 0), (1, 0), (2, 0), (3, 0), (4, 0), (5, 0), (6, 0), (7, 1), (8, 1), (9, 0), (10, 1)] (by kernel_rfl) (by kernel_rfl) (by kernel_rfl) (by rw [HWD.out]; exact C0.out _ (.inr (.inl rfl))) ?_
      iterate 7 (apply J.look (by rfl) (by rfl); (focus (intro W hW; obtain ⟨⟨hW0, hW1⟩, hW2, hW3⟩ := hW; go_simp; exact HasV.val rfl)); simp only [Act.put, List.setIfInBounds_toArray, List.set_cons_zero, List.set_cons_succ])
      rw [HWD.out]
      refine J.link (fun u W => u = .slice (some ⟨wd.heap.size, 0, none⟩) 1 1 ∧ W = wd.alloc (.cells #[.int .u64 x.1, .int .i64 x.2] 94)) (by rfl) (by rfl) ?_ (fun u W hR => C0.out _ (.inr (.inr (.inl hR.2)))) ?_
      · go_simp
        exact J.HasR.val ⟨rfl, rfl⟩
      rintro u W ⟨rfl, rfl⟩
      simp only [Act.put, List.setIfInBounds_toArray, List.set_cons_zero, List.set_cons_succ]
      refine J.link (fun u W => u = .slice A6 (n5 + 1) c6 ∧ W = w2) (by rfl) (by rfl) (hasR_append _ _ 80 80 rfl (.slice A5 n5 c5) (.slice (some ⟨wd.heap.size, 0, none⟩) 1 1) rfl rfl hrun ⟨rfl, rfl⟩) (fun u W hR => C0.out _ (.inr (.inr (.inr hR.2)))) ?_
      rintro u W ⟨rfl, rfl⟩
      simp only [Act.put, List.setIfInBounds_toArray, List.set_cons_zero, List.set_cons_succ]
      apply J.look (by rfl) (by rfl); (focus (intro W hW; obtain ⟨⟨hW0, hW1⟩, hW2, hW3⟩ := hW; go_simp; exact HasV.val rfl)); simp only [Act.put, List.setIfInBounds_toArray, List.set_cons_zero, List.set_cons_succ]
      refine J.final (fun u W' => u = undef ∧ W' = W.setCell ⟨q3, 3, none⟩ (.slice A6 (n5 + 1) c6)) (by rfl) (by rfl) (by kernel_rfl) ?_ ?_
      · go_simp
        exact J.HasR.skip ⟨rfl, rfl⟩
      rintro u W' ⟨rfl, rfl⟩
      simp only [Act.put, List.setIfInBounds_toArray, List.set_cons_zero, List.set_cons_succ]
      refine J.fin ?_
      go_wp2
      go_roundw
      case rel => exact ⟨n5 + 1, _, _, _, by omega, by go_num, hnext⟩
      case measure => simp [intOf]; omega
    · have et : t = cn := by omega
      subst et
      rw [show ch.take t = ch by rw [hcn]; exact List.take_length] at hO
      have e5 : n5 = t := by obtain ⟨A', c', e5, _⟩ := hO.form; simp only [Value.slice.injEq] at e5; rw [hcn]; exact e5.2.1
      subst e5
      have k2r := (hCr.block q2 (heap_lt k2) h23).trans k2
      obtain ⟨y0, y1, y2, y3⟩ := read4 k3
      obtain ⟨u0, u1, u2, u3⟩ := read4 k2r
      have g0 := frozen_of k2r 0
      have g1 := frozen_of k2r 1
      have g2 := frozen_of k2r 2
      have g3 := frozen_of k2r 3
      have hfin : Hid (OwnF ((((wr.setCell ⟨q2, 0, none⟩ (.int .u64 fr)).setCell ⟨q2, 1, none⟩ (.int .u64 bo)).setCell ⟨q2, 2, none⟩ (.int .u64 de)).setCell ⟨q2, 3, none⟩ (.slice A5 n5 c5)) 94 2 fch (.slice A5 n5 c5) ch ∧ Chg (fun _ => False) w ((((wr.setCell ⟨q2, 0, none⟩ (.int .u64 fr)).setCell ⟨q2, 1, none⟩ (.int .u64 bo)).setCell ⟨q2, 2, none⟩ (.int .u64 de)).setCell ⟨q2, 3, none⟩ (.slice A5 n5 c5))) := Lib.hid (by
        have hC4 : Chg (fun k => k = q2) wr ((((wr.setCell ⟨q2, 0, none⟩ (.int .u64 fr)).setCell ⟨q2, 1, none⟩ (.int .u64 bo)).setCell ⟨q2, 2, none⟩ (.int .u64 de)).setCell ⟨q2, 3, none⟩ (.slice A5 n5 c5)) := Chg.setCell (F := fun k => k = q2) (p := ⟨q2, 3, none⟩) (Chg.setCell (F := fun k => k = q2) (p := ⟨q2, 2, none⟩) (Chg.setCell (F := fun k => k = q2) (p := ⟨q2, 1, none⟩) (Chg.setCell (F := fun k => k = q2) (p := ⟨q2, 0, none⟩) (Chg.refl _ _) (fun _ => rfl) _) (fun _ => rfl) _) (fun _ => rfl) _) (fun _ => rfl) _
        have hw := HW.out
        refine ⟨hO.chg hC4 (fun k hk e => by have := hown k hk; have := heap_lt k2; omega), (hC03.trans hCr (fun k hk e => by omega)).trans hC4 (fun k hk e => by omega)⟩)
      clear hO hCr hown k3 h1 hC03 k1 k2 hcn h12 h23 k1r hO1 k2r HR HK HW HQ
      go_wp2
      refine bodyPost_ret (v := .agg #[.int .u64 fr, .int .u64 bo, .int .u64 de, .slice A5 n5 c5]) ?_ rfl ⟨A5, c5, rfl, hfin.out.1, hfin.out.2⟩
      simp [results, Try.results55, go_sem, u0, u1, u2, u3]
end Go.Proofs.Ytpndkelbchjkiaa
