/- The document's chain: cut. -/
import Derived.Test.YthoagpagnldmeaaRb
import Derived.Test.YthoagpagnldmeaaRj
set_option linter.unusedVariables false
set_option linter.unusedSimpArgs false
namespace Go.Proofs.Ythoagpagnldmeaa
open Go.RowKit Go.Ps
theorem hasR_append {R : Value → World → Prop} {o : Oper} {a : Act} {w : World} (s x : Operand) (t : TypeId) (ho : o.op = .call { callee := .builtin .append, args := #[s, x], argTypes := #[t, t] }) (va vb v' : Value) (w' : World) (hs : a.eval s = va) (hx : a.eval x = vb)
    (hr : (Builtin.append_ #[t, t] o.type #[va, vb]).run Try.prog w = .ok v' w') (h : R v' w') : J.HasR Try.prog R ((execOp a.eval o).run Try.prog w) := by
  unfold execOp
  simp only [ho, resolve, invoke, builtin, Sem.run_bind, Sem.run_pure, Result.andThen_ok, List.map_toArray, List.map_cons, List.map_nil, hs, hx, hr]
  exact J.HasR.val h
set_option maxRecDepth 20000 in
set_option maxHeartbeats 2000000 in
theorem rcut_any {w : World} {c : Nat} {v : Value} {L : List (Int × Int)} {nx : Int} (i : Nat) (h : RefW w c v L nx) (hi : i < L.length) (hl : L.length ≤ 100000) :
    Calls Try.prog 66 #[.pointer (some ⟨c, 0, none⟩), .int .i64 i] w (PutPost c (L.take i ++ L.drop (i + 1)) nx w (mv (L.getD i (0, 0)))) := by
  obtain ⟨A, cp, rfl, hcp, hrd, _, _⟩ := h.own.form
  obtain ⟨a, rfl, hx⟩ := hrd (by rintro rfl; simp at hi)
  obtain ⟨g, hg⟩ : ∃ g, a = ⟨g, 0, none⟩ := by
    rcases h.own.2 with ⟨hv, _⟩ | ⟨g, cap, cur, hv, _⟩
    · cases hv
    · cases hv; exact ⟨g, rfl⟩
  subst hg
  obtain ⟨m, hm⟩ : ∃ m, m = L.getD i (0, 0) := ⟨_, rfl⟩
  have hc0 : w.cell? ⟨g, i * 2, none⟩ = some (.int .i64 m.1) := by
    have := hx (i * 2 + 0) (.int .i64 m.1) (by rw [layM.get (0, 0) L i 0 hi (by omega), ← hm]; rfl)
    rw [add_zero] at this
    exact this
  have hc1 : w.cell? ⟨g, i * 2 + 1, none⟩ = some (.int .i64 m.2) := by
    have := hx (i * 2 + 1) (.int .i64 m.2) (by rw [layM.get (0, 0) L i 1 hi (by omega), ← hm]; rfl)
    rw [add_zero] at this
    exact this
  rw [← hm]
  obtain ⟨r, hr⟩ : ∃ r, r = w.heap.size := ⟨_, rfl⟩
  obtain ⟨V0, hV0⟩ : ∃ V, V = w.alloc (.cells #[.int .i64 0, .int .i64 0] 49) := ⟨_, rfl⟩
  have hV0C : Chg (fun _ => False) w V0 := by rw [hV0]; exact (Chg.refl _ w).alloc _
  have hr0 : V0.heap[r]? = some (.cells #[.int .i64 0, .int .i64 0] 49 (0, 0)) := by rw [hV0, hr]; exact heap_alloc_at _ _
  have hs0 : V0.heap.size = r + 1 := by rw [hV0, hr]; simp
  have e0 : V0.cell? ⟨g, i * 2, none⟩ = some (.int .i64 m.1) := chg_cell hV0C hc0 id
  have e1 : V0.cell? ⟨g, i * 2 + 1, none⟩ = some (.int .i64 m.2) := chg_cell hV0C hc1 id
  obtain ⟨V, hV⟩ : ∃ V, V = V0.alloc (.cells #[.int .i64 m.1, .int .i64 m.2] 49) := ⟨_, rfl⟩
  have hVC : Chg (fun _ => False) w V := by rw [hV]; exact hV0C.alloc _
  have hRV := h.chg hVC id (fun _ _ => id)
  have hrV : V.heap[r]? = some (.cells #[.int .i64 0, .int .i64 0] 49 (0, 0)) := by rw [hV]; exact heap_alloc_ne hr0
  have hrV1 : V.heap[r + 1]? = some (.cells #[.int .i64 m.1, .int .i64 m.2] 49 (0, 0)) := by rw [hV, ← hs0]; exact heap_alloc_at _ _
  have hrc : r ≠ c := by have := heap_lt h.cell; omega
  have hrc1 : r + 1 ≠ c := by have := heap_lt h.cell; omega
  have hreads : ∀ W, Chg (fun _ => False) V W → ReadsF W fmem (some ⟨g, 0, none⟩) L := fun W hC => by
    obtain ⟨A2, c2, hv2, _, hr2, _⟩ := (hRV.chg hC id (fun _ _ => id)).own.form
    cases hv2
    exact hr2
  have hti : (L.take i).length = i := by rw [List.length_take]; omega
  have hdi : (L.drop (i + 1)).length = L.length - (i + 1) := List.length_drop
  -- the empty slice
  obtain ⟨W1, hW1⟩ : ∃ W1, W1 = V.drew.alloc (.cells #[] 49) := ⟨_, rfl⟩
  have hsV : V.drew.heap.size = V.heap.size := rfl
  have hb1 : W1.heap[V.heap.size]? = some (.cells #[] 49 (0, 0)) := by rw [hW1, ← hsV]; exact heap_alloc_at _ _
  have hC0 : Chg (fun _ => False) V W1 := by rw [hW1]; exact ((Chg.refl _ V).drew).alloc _
  have ho0 : OwnF W1 49 2 fmem (.slice (some ⟨V.heap.size, 0, none⟩) 0 0) [] := by
    refine ⟨by simp, .inr ⟨V.heap.size, 0, #[], rfl, Nat.zero_le _, hb1, Nat.le_refl _, ?_, rfl, ?_⟩⟩
    · unfold maxLen; omega
    · simp
  -- first append
  obtain ⟨A1, c1, w1, hap1, ho1, hg1, hat1⟩ := ho0.appendF (P := Try.prog) layM 33 Try.underlying33 info49 zsize cp (by have := ReadsF.sub layM (c := cp) (hreads W1 hC0) 0 i (by omega) hcp; rwa [List.drop_zero] at this) (by rw [hti]; simp; omega) (by omega)
  rw [hti] at hap1 hat1 ho1
  simp only [List.length_nil, Nat.zero_add, List.nil_append] at hap1 hat1 ho1
  have hC1 : Chg (fun _ => False) V w1 := hC0.grown hg1 (fun k hk hlt => by cases hk; exact Nat.lt_irrefl _ hlt)
  have hf1 : ∀ k, Value.ownBlock (.slice A1 i c1) = some k → V.heap.size ≤ k := fun k hk => by
    rcases hat1 with e | e
    · rw [e] at hk; cases hk; exact Nat.le_refl _
    · rw [e] at hk; cases hk; exact hC0.size
  -- second append
  obtain ⟨A3, c3, w3, hap3, ho3, hg3, hat3⟩ := ho1.appendF (P := Try.prog) layM 33 Try.underlying33 info49 zsize (cp - (i + 1)) (by have := ReadsF.sub layM (c := cp) (hreads w1 hC1) (i + 1) L.length (Nat.le_refl _) hcp; rwa [List.take_length] at this) (by rw [hdi, hti]; omega) (by omega)
  rw [hdi, hti] at hap3 hat3 ho3
  have hC3 : Chg (fun _ => False) V w3 := hC1.grown hg3 (fun k hk hlt => by have := hf1 k hk; omega)
  have hf3 : ∀ k, Value.ownBlock (.slice A3 (i + (L.length - (i + 1))) c3) = some k → V.heap.size ≤ k := fun k hk => by
    rcases hat3 with e | e
    · rw [e] at hk; exact hf1 k hk
    · rw [e] at hk; cases hk; exact hC1.size
  obtain ⟨hR, hC4⟩ := hRV.put hC3 ho3 hf3
  obtain ⟨W4, hW4⟩ : ∃ W4, W4 = w3.setCell ⟨c, 0, none⟩ (.slice A3 (i + (L.length - (i + 1))) c3) := ⟨_, rfl⟩
  rw [← hW4] at hR hC4
  have q0 : W4.heap[r]? = some (.cells #[.int .i64 0, .int .i64 0] 49 (0, 0)) := (hC4.block r (heap_lt hrV) hrc).trans hrV
  have q1 : W4.heap[r + 1]? = some (.cells #[.int .i64 m.1, .int .i64 m.2] 49 (0, 0)) := (hC4.block (r + 1) (heap_lt hrV1) hrc1).trans hrV1
  have fin : PutPost c (L.take i ++ L.drop (i + 1)) nx w (mv m) (.returned (mv m)) ((W4.setCell ⟨r, 0, none⟩ (.int .i64 m.1)).setCell ⟨r, 1, none⟩ (.int .i64 m.2)) := by
    have hC5 : Chg (fun k => k = r) W4 ((W4.setCell ⟨r, 0, none⟩ (.int .i64 m.1)).setCell ⟨r, 1, none⟩ (.int .i64 m.2)) := chg1 (F := fun k => k = r) (chg1 (F := fun k => k = r) (Chg.refl _ _) rfl _) rfl _
    have hszV : r < V.heap.size := heap_lt hrV
    exact ⟨_, rfl, hR.chg hC5 (Ne.symm hrc) (fun k hk e => by have := hf3 k hk; omega), ((hVC.mono (G := fun k => k = c) (fun _ _ h => h.elim)).trans hC4 (fun _ _ h => h)).trans hC5 (fun k hk e => by omega), fun k hk => Nat.le_trans hVC.size (hf3 k hk)⟩
  have b0 := hRV.cell
  have b2 := chg_heap0 hC1 hRV.cell
  have b3 := chg_heap0 hC3 hRV.cell
  have bW1 := chg_heap0 hC0 hRV.cell
  have bw := chg_heap0 hV0C h.cell
  obtain ⟨x0, x1⟩ := read2 bw
  obtain ⟨u0, u1⟩ := read2 b3
  have f3 := frz b3
  obtain ⟨y0, y1⟩ := read2 q0
  obtain ⟨z0, z1⟩ := read2 q1
  have f4 := frz q0
  obtain ⟨n, hn⟩ : ∃ n, n = L.length := ⟨_, rfl⟩
  have hin : (i : Int) < n := by omega
  have hsH := run_cutFH Try.underlying33 size49 (some ⟨g, 0, none⟩) n cp (kj := .i64) i (by omega)
  obtain ⟨j, hj⟩ : ∃ j, j = i + 1 := ⟨_, rfl⟩
  have hsL := run_cutFL Try.underlying33 size49 (some ⟨g, 0, none⟩) n cp (ki := .i64) j (by omega) (by omega)
  have hwi : IntKind.i64.wrap ((i : Int) + 1) = (j : Int) := by rw [wrap_i (by omega) (by omega), hj]; rfl
  rw [← hj] at hap3 hW4
  rw [← hn] at x0 u0 hap3 hW4
  have cV := cell_of b0 0 rfl
  have cW1 := cell_of bW1 0 rfl
  have cw1 := cell_of b2 0 rfl
  rw [← hn] at cV cW1 cw1
  have FIN := Lib.hid fin
  have HV := Lib.hid hV
  have HV0 := Lib.hid hV0
  have HR := Lib.hid hr
  have HS0 := Lib.hid hs0
  have HW1 := Lib.hid hW1
  have HW4 := Lib.hid hW4
  have HC := Lib.hid (⟨cV, cW1, cw1⟩ : _ ∧ _ ∧ _)
  have HX := Lib.hid (⟨u0, f3⟩ : _ ∧ _)
  have HY := Lib.hid (⟨y0, y1, z0, z1, f4⟩ : _ ∧ _ ∧ _ ∧ _ ∧ _)
  have HA1 := Lib.hid hap1
  have HA3 := Lib.hid hap3
  clear hj h hi hl hcp hV hr hVC hRV hrV hreads hti hdi ho1 hg1 hat1 hC1 hf1 ho3 hg3 hat3 hC3 hf3 hR hC4 fin b0 b2 b3 hn hx hm hc0 hc1 hV0 hV0C hr0 hs0 hrV1 hrc1 hrc hW1 hsV hb1 hC0 ho0 hW4 q0 q1 bW1 bw x1 u0 u1 f3 y0 y1 z0 z1 f4 cV cW1 cw1 hap1 hap3
  unfold mv
  go_enter Try.func66, Try.ntmps66
  go_upto_region 1 with (fail)
  rw [← HV0.out, ← HR.out]
  go_wp2_with fail
  rw [← HV.out, HS0.out]
  refine J.wp_region_seq (fun W => W.cell? ⟨c, 0, none⟩ = some (.slice (some ⟨g, 0, none⟩) n cp)) [(0, 0), (2, 0), (3, 0), (4, 0), (5, 0), (6, 0), (7, 0), (9, 0), (10, 0), (11, 0), (12, 0), (13, 0), (14, 0), (15, 0), (1, 1), (8, 1), (16, 1), (17, 0), (18, 0), (19, 1)] (by kernel_rfl) (by kernel_rfl) (by kernel_rfl) HC.out.1 ?_
  iterate 6 (apply J.look (by rfl) (by rfl); (focus (intro W hW; go_simp; exact HasV.val rfl)); simp only [Act.put, List.setIfInBounds_toArray, List.set_cons_zero, List.set_cons_succ])
  apply J.look (by rfl) (by rfl); (focus (intro W hW; have hq := hsH W; go_simp; exact HasV.val rfl)); simp only [Act.put, List.setIfInBounds_toArray, List.set_cons_zero, List.set_cons_succ]
  iterate 6 (apply J.look (by rfl) (by rfl); (focus (intro W hW; go_simp; exact HasV.val rfl)); simp only [Act.put, List.setIfInBounds_toArray, List.set_cons_zero, List.set_cons_succ])
  apply J.look (by rfl) (by rfl); (focus (intro W hW; have hq := hsL W; go_simp; exact HasV.val rfl)); simp only [Act.put, List.setIfInBounds_toArray, List.set_cons_zero, List.set_cons_succ]
  refine J.link (fun v W => v = .slice (some ⟨V.heap.size, 0, none⟩) 0 0 ∧ W = W1) (by rfl) (by rfl) ?_ (fun v W hR => by rw [hR.2]; exact HC.out.2.1) ?_
  · go_simp
    exact J.HasR.val ⟨rfl, HW1.out.symm⟩
  rintro v W ⟨rfl, hW⟩
  obtain rfl : W1 = W := hW.symm
  simp only [Act.put, List.setIfInBounds_toArray, List.set_cons_zero, List.set_cons_succ]
  refine J.link (fun v W => v = .slice A1 i c1 ∧ W = w1) (by rfl) (by rfl) ?_ (fun v W hR => by rw [hR.2]; exact HC.out.2.2) ?_
  · exact hasR_append (.tmp 14) (.tmp 20) 33 rfl _ _ _ _ rfl rfl HA1.out ⟨rfl, rfl⟩
  rintro v W ⟨rfl, hW⟩
  obtain rfl : w1 = W := hW.symm
  simp only [Act.put, List.setIfInBounds_toArray, List.set_cons_zero, List.set_cons_succ]
  refine J.link (fun v W => v = .slice A3 (i + (n - j)) c3 ∧ W = w3) (by rfl) (by rfl) ?_ (fun v W hR => by rw [hR.2]; exact HX.out.1) ?_
  · exact hasR_append (.tmp 21) (.tmp 28) 33 rfl _ _ _ _ rfl rfl HA3.out ⟨rfl, rfl⟩
  rintro v W ⟨rfl, hW⟩
  obtain rfl : w3 = W := hW.symm
  simp only [Act.put, List.setIfInBounds_toArray, List.set_cons_zero, List.set_cons_succ]
  iterate 2 (apply J.look (by rfl) (by rfl); (focus (intro W hW; go_simp; exact HasV.val rfl)); simp only [Act.put, List.setIfInBounds_toArray, List.set_cons_zero, List.set_cons_succ])
  obtain ⟨u0, f3⟩ := HX.out
  refine J.final (fun v W => v = undef ∧ W = W4) (by rfl) (by rfl) (by kernel_rfl) ?_ ?_
  · go_simp
    exact J.HasR.skip ⟨rfl, HW4.out.symm⟩
  rintro v W ⟨rfl, hW⟩
  obtain rfl : W4 = W := hW.symm
  simp only [Act.put, List.setIfInBounds_toArray, List.set_cons_zero, List.set_cons_succ]
  refine J.fin ?_
  obtain ⟨y0, y1, z0, z1, f4⟩ := HY.out
  clear u0 f3 x0 e0 e1 hin hsH hsL hwi hrd
  go_wp2
  exact bodyPost_ret (v := mv m) (by simp [results, Try.results66, go_sem, mv, y0, y1]) rfl FIN.out
end Go.Proofs.Ythoagpagnldmeaa
