/- The document's voters: cut. The document's voters: last. The document's voters: Insert, Remove, Update. The document's voters: Rebag. The document's voters: Front. The document's voters: Front, that moves. -/
import Derived.Test.YthoagpagnldmeaaWn
import Derived.Test.YthoagpagnldmeaaWk
set_option linter.unusedVariables false
set_option linter.unusedSimpArgs false
namespace Go.Proofs.Ythoagpagnldmeaa.V
open Go.RowKit Go.Ps
set_option maxRecDepth 20000 in
set_option maxHeartbeats 2000000 in
theorem rvcut {w : World} {c : Nat} {tT v : Value} {L : List DV} (i : Nat) (h : RV w c tT v L) (hi : i < L.length) (hl : L.length ≤ 100000) :
    Calls Try.prog 83 #[.pointer (some ⟨c, 0, none⟩), .int .i64 i] w (PutPost c tT (L.take i ++ L.drop (i + 1)) w (mV (L.getD i d0))) := by
  obtain ⟨A, cp, rfl, hcp, hrd, _, _⟩ := h.own.form
  obtain ⟨a, rfl, hx⟩ := hrd (by rintro rfl; simp at hi)
  obtain ⟨g, hg⟩ : ∃ g, a = ⟨g, 0, none⟩ := by
    rcases h.own.2 with ⟨hv, _⟩ | ⟨g, cap, cur, hv, _⟩
    · cases hv
    · cases hv; exact ⟨g, rfl⟩
  subst hg
  obtain ⟨m, hm⟩ : ∃ m, m = L.getD i d0 := ⟨_, rfl⟩
  have hc0 : w.cell? ⟨g, i * 3, none⟩ = some (.int .i64 m.1) := by
    have := hx (i * 3 + 0) (.int .i64 m.1) (by rw [layD.get d0 L i 0 hi (by omega), ← hm]; rfl)
    rw [add_zero] at this
    exact this
  have hc1 : w.cell? ⟨g, i * 3 + 1, none⟩ = some (.int .u64 m.2.1) := by
    have := hx (i * 3 + 1) (.int .u64 m.2.1) (by rw [layD.get d0 L i 1 hi (by omega), ← hm]; rfl)
    rw [add_zero] at this
    exact this
  have hc2 : w.cell? ⟨g, i * 3 + 2, none⟩ = some (.int .i64 m.2.2) := by
    have := hx (i * 3 + 2) (.int .i64 m.2.2) (by rw [layD.get d0 L i 2 hi (by omega), ← hm]; rfl)
    rw [add_zero] at this
    exact this
  rw [← hm]
  obtain ⟨r, hr⟩ : ∃ r, r = w.heap.size := ⟨_, rfl⟩
  obtain ⟨V0, hV0⟩ : ∃ V, V = w.alloc (.cells #[.int .i64 0, .int .u64 0, .int .i64 0] 85) := ⟨_, rfl⟩
  have hV0C : Chg (fun _ => False) w V0 := by rw [hV0]; exact (Chg.refl _ w).alloc _
  have hr0 : V0.heap[r]? = some (.cells #[.int .i64 0, .int .u64 0, .int .i64 0] 85 (0, 0)) := by rw [hV0, hr]; exact heap_alloc_at _ _
  have hs0 : V0.heap.size = r + 1 := by rw [hV0, hr]; simp
  have e0 : V0.cell? ⟨g, i * 3, none⟩ = some (.int .i64 m.1) := chg_cell hV0C hc0 id
  have e1 : V0.cell? ⟨g, i * 3 + 1, none⟩ = some (.int .u64 m.2.1) := chg_cell hV0C hc1 id
  have e2 : V0.cell? ⟨g, i * 3 + 2, none⟩ = some (.int .i64 m.2.2) := chg_cell hV0C hc2 id
  obtain ⟨V, hV⟩ : ∃ V, V = V0.alloc (.cells #[.int .i64 m.1, .int .u64 m.2.1, .int .i64 m.2.2] 85) := ⟨_, rfl⟩
  have hVC : Chg (fun _ => False) w V := by rw [hV]; exact hV0C.alloc _
  have hRV := h.chg hVC id (fun _ _ => id)
  have hrV : V.heap[r]? = some (.cells #[.int .i64 0, .int .u64 0, .int .i64 0] 85 (0, 0)) := by rw [hV]; exact heap_alloc_ne hr0
  have hrV1 : V.heap[r + 1]? = some (.cells #[.int .i64 m.1, .int .u64 m.2.1, .int .i64 m.2.2] 85 (0, 0)) := by rw [hV, ← hs0]; exact heap_alloc_at _ _
  have hrc : r ≠ c := by have := heap_lt h.cell; omega
  have hrc1 : r + 1 ≠ c := by have := heap_lt h.cell; omega
  have hreads : ∀ W, Chg (fun _ => False) V W → ReadsF W fd (some ⟨g, 0, none⟩) L := fun W hC => by
    obtain ⟨A2, c2, hv2, _, hr2, _⟩ := (hRV.chg hC id (fun _ _ => id)).own.form
    cases hv2
    exact hr2
  have hti : (L.take i).length = i := by rw [List.length_take]; omega
  have hdi : (L.drop (i + 1)).length = L.length - (i + 1) := List.length_drop
  -- the empty slice
  obtain ⟨W1, hW1⟩ : ∃ W1, W1 = V.drew.alloc (.cells #[] 85) := ⟨_, rfl⟩
  have hsV : V.drew.heap.size = V.heap.size := rfl
  have hb1 : W1.heap[V.heap.size]? = some (.cells #[] 85 (0, 0)) := by rw [hW1, ← hsV]; exact heap_alloc_at _ _
  have hC0 : Chg (fun _ => False) V W1 := by rw [hW1]; exact ((Chg.refl _ V).drew).alloc _
  have ho0 : OwnF W1 85 3 fd (.slice (some ⟨V.heap.size, 0, none⟩) 0 0) [] := by
    refine ⟨by simp, .inr ⟨V.heap.size, 0, #[], rfl, Nat.zero_le _, hb1, Nat.le_refl _, ?_, rfl, ?_⟩⟩
    · unfold maxLen; omega
    · simp
  -- first append
  obtain ⟨A1, c1, w1, hap1, ho1, hg1, hat1⟩ := ho0.appendF (P := Try.prog) layD 70 Try.underlying70 info85 zsize3 cp (by have := ReadsF.sub layD (c := cp) (hreads W1 hC0) 0 i (by omega) hcp; rwa [List.drop_zero] at this) (by rw [hti]; simp; omega) (by omega)
  rw [hti] at hap1 hat1 ho1
  simp only [List.length_nil, Nat.zero_add, List.nil_append] at hap1 hat1 ho1
  have hC1 : Chg (fun _ => False) V w1 := hC0.grown hg1 (fun k hk hlt => by cases hk; exact Nat.lt_irrefl _ hlt)
  have hf1 : ∀ k, Value.ownBlock (.slice A1 i c1) = some k → V.heap.size ≤ k := fun k hk => by
    rcases hat1 with e | e
    · rw [e] at hk; cases hk; exact Nat.le_refl _
    · rw [e] at hk; cases hk; exact hC0.size
  -- second append
  obtain ⟨A3, c3, w3, hap3, ho3, hg3, hat3⟩ := ho1.appendF (P := Try.prog) layD 70 Try.underlying70 info85 zsize3 (cp - (i + 1)) (by have := ReadsF.sub layD (c := cp) (hreads w1 hC1) (i + 1) L.length (Nat.le_refl _) hcp; rwa [List.take_length] at this) (by rw [hdi, hti]; omega) (by omega)
  rw [hdi, hti] at hap3 hat3 ho3
  have hC3 : Chg (fun _ => False) V w3 := hC1.grown hg3 (fun k hk hlt => by have := hf1 k hk; omega)
  have hf3 : ∀ k, Value.ownBlock (.slice A3 (i + (L.length - (i + 1))) c3) = some k → V.heap.size ≤ k := fun k hk => by
    rcases hat3 with e | e
    · rw [e] at hk; exact hf1 k hk
    · rw [e] at hk; cases hk; exact hC1.size
  obtain ⟨hR, hC4⟩ := hRV.put hC3 ho3 hf3
  obtain ⟨W4, hW4⟩ : ∃ W4, W4 = w3.setCell ⟨c, 1, none⟩ (.slice A3 (i + (L.length - (i + 1))) c3) := ⟨_, rfl⟩
  rw [← hW4] at hR hC4
  have q0 : W4.heap[r]? = some (.cells #[.int .i64 0, .int .u64 0, .int .i64 0] 85 (0, 0)) := (hC4.block r (heap_lt hrV) hrc).trans hrV
  have q1 : W4.heap[r + 1]? = some (.cells #[.int .i64 m.1, .int .u64 m.2.1, .int .i64 m.2.2] 85 (0, 0)) := (hC4.block (r + 1) (heap_lt hrV1) hrc1).trans hrV1
  have fin : PutPost c tT (L.take i ++ L.drop (i + 1)) w (mV m) (.returned (mV m)) (((W4.setCell ⟨r, 0, none⟩ (.int .i64 m.1)).setCell ⟨r, 1, none⟩ (.int .u64 m.2.1)).setCell ⟨r, 2, none⟩ (.int .i64 m.2.2)) := by
    have hC5 : Chg (fun k => k = r) W4 (((W4.setCell ⟨r, 0, none⟩ (.int .i64 m.1)).setCell ⟨r, 1, none⟩ (.int .u64 m.2.1)).setCell ⟨r, 2, none⟩ (.int .i64 m.2.2)) := chg1 (F := fun k => k = r) (chg1 (F := fun k => k = r) (chg1 (F := fun k => k = r) (Chg.refl _ _) rfl _) rfl _) rfl _
    have hszV : r < V.heap.size := heap_lt hrV
    exact ⟨_, rfl, hR.chg hC5 (Ne.symm hrc) (fun k hk e => by have := hf3 k hk; omega), ((hVC.mono (G := fun k => k = c) (fun _ _ h => h.elim)).trans hC4 (fun _ _ h => h)).trans hC5 (fun k hk e => by omega), fun k hk => Nat.le_trans hVC.size (hf3 k hk)⟩
  have b0 := hRV.cell
  have b2 := chg_heap0 hC1 hRV.cell
  have b3 := chg_heap0 hC3 hRV.cell
  have bW1 := chg_heap0 hC0 hRV.cell
  have bw := chg_heap0 hV0C h.cell
  obtain ⟨x1, x0⟩ := read2 bw
  obtain ⟨u1, u0⟩ := read2 b3
  have f3 := frz b3
  obtain ⟨y0, y1, y2⟩ := read3 q0
  obtain ⟨z0, z1, z2⟩ := read3 q1
  have f4 := frz q0
  obtain ⟨n, hn⟩ : ∃ n, n = L.length := ⟨_, rfl⟩
  have hin : (i : Int) < n := by omega
  have hsH := run_cutFH Try.underlying70 size85 (some ⟨g, 0, none⟩) n cp (kj := .i64) i (by omega)
  obtain ⟨j, hj⟩ : ∃ j, j = i + 1 := ⟨_, rfl⟩
  have hsL := run_cutFL Try.underlying70 size85 (some ⟨g, 0, none⟩) n cp (ki := .i64) j (by omega) (by omega)
  have hwi : IntKind.i64.wrap ((i : Int) + 1) = (j : Int) := by rw [wrap_i (by omega) (by omega), hj]; rfl
  rw [← hj] at hap3 hW4
  rw [← hn] at x0 u0 hap3 hW4
  have cV := cell_of b0 1 rfl
  have cW1 := cell_of bW1 1 rfl
  have cw1 := cell_of b2 1 rfl
  rw [← hn] at cV cW1 cw1
  have FIN := Lib.hid fin
  have HV := Lib.hid hV
  have HV0 := Lib.hid hV0
  have HR := Lib.hid hr
  have HS0 := Lib.hid hs0
  have HW1 := Lib.hid hW1
  have HW4 := Lib.hid hW4
  have HC := Lib.hid (⟨cV, cW1, cw1⟩ : _ ∧ _ ∧ _)
  have HX := Lib.hid (⟨u0, f3⟩ : _ ∧ _)
  have HY := Lib.hid (⟨y0, y1, y2, z0, z1, z2, f4⟩ : _ ∧ _ ∧ _ ∧ _ ∧ _ ∧ _ ∧ _)
  have HA1 := Lib.hid hap1
  have HA3 := Lib.hid hap3
  clear hj h hi hl hcp hV hr hVC hRV hrV hreads hti hdi ho1 hg1 hat1 hC1 hf1 ho3 hg3 hat3 hC3 hf3 hR hC4 fin b0 b2 b3 hn hx hm hc0 hc1 hc2 hV0 hV0C hr0 hs0 hrV1 hrc1 hrc hW1 hsV hb1 hC0 ho0 hW4 q0 q1 bW1 bw x1 u0 u1 f3 y0 y1 y2 z0 z1 z2 f4 cV cW1 cw1 hap1 hap3
  unfold mV
  go_enter Try.func83, Try.ntmps83
  go_upto_region 1 with (fail)
  rw [← HV0.out, ← HR.out]
  go_wp2_with fail
  rw [← HV.out, HS0.out]
  refine J.wp_region_seq (fun W => W.cell? ⟨c, 1, none⟩ = some (.slice (some ⟨g, 0, none⟩) n cp)) [(0, 0), (2, 0), (3, 0), (4, 0), (5, 0), (6, 0), (7, 0), (9, 0), (10, 0), (11, 0), (12, 0), (13, 0), (14, 0), (15, 0), (1, 1), (8, 1), (16, 1), (17, 0), (18, 0), (19, 1)] (by kernel_rfl) (by kernel_rfl) (by kernel_rfl) HC.out.1 ?_
  iterate 6 (apply J.look (by rfl) (by rfl); (focus (intro W hW; go_simp; exact HasV.val rfl)); simp only [Act.put, List.setIfInBounds_toArray, List.set_cons_zero, List.set_cons_succ])
  apply J.look (by rfl) (by rfl); (focus (intro W hW; have hq := hsH W; go_simp; exact HasV.val rfl)); simp only [Act.put, List.setIfInBounds_toArray, List.set_cons_zero, List.set_cons_succ]
  iterate 6 (apply J.look (by rfl) (by rfl); (focus (intro W hW; go_simp; exact HasV.val rfl)); simp only [Act.put, List.setIfInBounds_toArray, List.set_cons_zero, List.set_cons_succ])
  apply J.look (by rfl) (by rfl); (focus (intro W hW; have hq := hsL W; go_simp; exact HasV.val rfl)); simp only [Act.put, List.setIfInBounds_toArray, List.set_cons_zero, List.set_cons_succ]
  refine J.link (fun v W => v = .slice (some ⟨V.heap.size, 0, none⟩) 0 0 ∧ W = W1) (by rfl) (by rfl) ?_ (fun v W hR => by rw [hR.2]; exact HC.out.2.1) ?_
  · go_simp
    exact J.HasR.val ⟨rfl, HW1.out.symm⟩
  rintro v W ⟨rfl, hW⟩
  obtain rfl : W1 = W := hW.symm
  simp only [Act.put, List.setIfInBounds_toArray, List.set_cons_zero, List.set_cons_succ]
  refine J.link (fun v W => v = .slice A1 i c1 ∧ W = w1) (by rfl) (by rfl) ?_ (fun v W hR => by rw [hR.2]; exact HC.out.2.2) ?_
  · exact hasR_append (.tmp 14) (.tmp 20) 70 rfl _ _ _ _ rfl rfl HA1.out ⟨rfl, rfl⟩
  rintro v W ⟨rfl, hW⟩
  obtain rfl : w1 = W := hW.symm
  simp only [Act.put, List.setIfInBounds_toArray, List.set_cons_zero, List.set_cons_succ]
  refine J.link (fun v W => v = .slice A3 (i + (n - j)) c3 ∧ W = w3) (by rfl) (by rfl) ?_ (fun v W hR => by rw [hR.2]; exact HX.out.1) ?_
  · exact hasR_append (.tmp 21) (.tmp 28) 70 rfl _ _ _ _ rfl rfl HA3.out ⟨rfl, rfl⟩
  rintro v W ⟨rfl, hW⟩
  obtain rfl : w3 = W := hW.symm
  simp only [Act.put, List.setIfInBounds_toArray, List.set_cons_zero, List.set_cons_succ]
  iterate 2 (apply J.look (by rfl) (by rfl); (focus (intro W hW; go_simp; exact HasV.val rfl)); simp only [Act.put, List.setIfInBounds_toArray, List.set_cons_zero, List.set_cons_succ])
  obtain ⟨u0, f3⟩ := HX.out
  refine J.final (fun v W => v = undef ∧ W = W4) (by rfl) (by rfl) (by kernel_rfl) ?_ ?_
  · go_simp
    exact J.HasR.skip ⟨rfl, HW4.out.symm⟩
  rintro v W ⟨rfl, hW⟩
  obtain rfl : W4 = W := hW.symm
  simp only [Act.put, List.setIfInBounds_toArray, List.set_cons_zero, List.set_cons_succ]
  refine J.fin ?_
  obtain ⟨y0, y1, y2, z0, z1, z2, f4⟩ := HY.out
  clear u0 f3 x0 e0 e1 e2 hin hsH hsL hwi hrd
  go_wp2
  exact bodyPost_ret (v := mV m) (by simp [results, Try.results83, go_sem, mV, y0, y1, y2]) rfl FIN.out
end Go.Proofs.Ythoagpagnldmeaa.V
namespace Go.Proofs.Ythoagpagnldmeaa.V
open Go.RowKit Go.Ps
def lastK (D : List DV) (b : Int) : Nat := D.findIdx (fun q => decide (q.2.2 < b))
theorem lastK_le (D : List DV) (b : Int) : lastK D b ≤ D.length := List.findIdx_le_length
theorem lastK_eq {D : List DV} {b : Int} {k : Nat} (h1 : k ≤ D.length) (h2 : ∀ t, t < k → b ≤ (D.getD t d0).2.2) (h3 : k < D.length → (D.getD k d0).2.2 < b) : lastK D b = k := by
  unfold lastK
  by_cases hk : k < D.length
  · rw [List.findIdx_eq hk]
    refine ⟨?_, fun j hj => ?_⟩
    · have := h3 hk
      simpa [List.getD_eq_getElem?_getD, hk] using this
    · have := h2 j hj
      have hjl : j < D.length := by omega
      simp [List.getD_eq_getElem?_getD, hjl] at this
      simpa using this
  · obtain rfl : k = D.length := by omega
    rw [List.findIdx_eq_length]
    intro x hx
    obtain ⟨j, hj, rfl⟩ := List.mem_iff_getElem.1 hx
    have := h2 j hj
    simp [List.getD_eq_getElem?_getD, hj] at this
    simpa using this
/-- The document's last. -/
def insD (D : List DV) (m : DV) : List DV := D.take (lastK D m.2.2) ++ m :: D.drop (lastK D m.2.2)
set_option maxRecDepth 20000 in
set_option maxHeartbeats 4000000 in
theorem rvlast {w : World} {c : Nat} {tT v : Value} {D : List DV} (m : DV) (h : RV w c tT v D) (hl : D.length ≤ 100000) :
    Calls Try.prog 82 #[.pointer (some ⟨c, 0, none⟩), mV m] w (PutPost c tT (insD D m) w (.tuple #[])) := by
  obtain ⟨A, cp, hvv, hcp, _, _, _⟩ := h.own.form
  obtain ⟨n, hn⟩ : ∃ n, n = D.length := ⟨_, rfl⟩
  rw [← hn] at hvv
  obtain ⟨r, hr⟩ : ∃ r, r = w.heap.size := ⟨_, rfl⟩
  obtain ⟨V, hV⟩ : ∃ V, V = w.alloc (.cells #[.int .i64 m.1, .int .u64 m.2.1, .int .i64 m.2.2] 85) := ⟨_, rfl⟩
  have hVC : Chg (fun _ => False) w V := by rw [hV]; exact (Chg.refl _ w).alloc _
  have hrV : V.heap[r]? = some (.cells #[.int .i64 m.1, .int .u64 m.2.1, .int .i64 m.2.2] 85 (0, 0)) := by rw [hV, hr]; exact heap_alloc_at _ _
  have HH := Lib.hid (⟨h, hl, hn, hvv, hVC, hrV⟩ : _ ∧ _ ∧ _ ∧ _ ∧ _ ∧ _)
  have HV := Lib.hid hV
  have HR := Lib.hid hr
  clear h hl hn hvv hVC hrV hV hr hcp
  unfold mV
  go_enter Try.func82, Try.ntmps82
  go_upto_region 1 with (fail)
  rw [← HV.out, ← HR.out]
  go_wp2
  go_loopw [4] (fun i wr => ∃ k : Nat, i = .int .i64 k ∧ k ≤ n ∧ Hid ((∀ t, t < k → m.2.2 ≤ (D.getD t d0).2.2) ∧ Chg (fun _ => False) V wr)) (fun i _ => n - (intOf i).toNat)
  case atStart => exact ⟨0, rfl, Nat.zero_le _, Lib.hid ⟨fun t ht => by omega, Chg.refl _ _⟩⟩
  case round =>
    obtain ⟨k, rfl, hk, HI⟩ := hrel
    obtain ⟨h, hl, hn, hvv, hVC, hrV⟩ := HH.out
    have hR := (h.chg hVC (fun f => f) (fun _ _ f => f)).chg HI.out.2.drew (fun f => f) (fun _ _ f => f)
    have hrb := chg_heap0 HI.out.2 hrV
    have hrbd := chg_heap0 HI.out.2.drew hrV
    have s2 := (read3 hrb).2.2
    obtain ⟨t0, t1, t2⟩ := read3 hrbd
    have hC2 : Chg (fun _ => False) w wr.drew := hVC.trans HI.out.2.drew (fun _ _ f => f)
    have HC2 := Lib.hid hC2
    by_cases hkn : k < n
    · have hR0 := (h.chg hVC (fun f => f) (fun _ _ f => f)).chg HI.out.2 (fun f => f) (fun _ _ f => f)
      obtain ⟨g, cr, cur, hv2, hvo, hcbk, _, _, hcc⟩ := hR0.own.at_ layD d0 (by omega)
      rw [hvv] at hv2
      simp only [Value.slice.injEq] at hv2
      obtain ⟨rfl, -, rfl⟩ := hv2
      have s0 := (read2 hR0.cell).2
      rw [hvv] at s0
      obtain ⟨y, hy⟩ : ∃ y, y = D.getD k d0 := ⟨_, rfl⟩
      obtain ⟨yb, hyb⟩ : ∃ yb, yb = y.2.2 := ⟨_, rfl⟩
      have s1 : wr.cell? ⟨g, k * 3 + 2, none⟩ = some (.int .i64 yb) := by
        have := hcc k 2 (by omega) (by omega)
        rw [← hy] at this
        rw [hyb]
        exact cell_of hcbk (k * 3 + 2) this
      by_cases hle : m.2.2 ≤ yb
      · have HB := Lib.hid (⟨fun t ht => by
          by_cases e : t = k
          · rw [e, ← hy, ← hyb]; exact hle
          · exact HI.out.1 t (by omega), HI.out.2.drew, by omega⟩ : (∀ t, t < k + 1 → m.2.2 ≤ (D.getD t d0).2.2) ∧ Chg (fun _ => False) V wr.drew ∧ k < 100000)
        have HW := Lib.hid (show wrap64 ((k : Int) + 1) = ((k + 1 : Nat) : Int) by unfold wrap64; omega)
        clear h hl hn hvv hVC hrV hR hrb hrbd hC2 hR0 hvo hcbk hcc hy hyb t0 t1 t2
        go_wp2_with fail
        refine J.wp_region_seq (fun W => W.cell? ⟨c, 1, none⟩ = some (.slice (some ⟨g, 0, none⟩) n cp) ∧ W.cell? ⟨g, k * 3 + 2, none⟩ = some (.int .i64 yb) ∧ W.cell? ⟨r, 2, none⟩ = some (.int .i64 m.2.2)) [(0, 0), (1, 0), (2, 0), (3, 0), (4, 0), (5, 0), (6, 0), (7, 0), (8, 0), (9, 0), (10, 0), (11, 0), (12, 0), (13, 0), (14, 0), (15, 0), (16, 0), (17, 0), (18, 0), (19, 0)] (by kernel_rfl) (by kernel_rfl) (by kernel_rfl) ⟨s0, s1, s2⟩ ?_
        iterate 20 (apply J.look (by rfl) (by rfl); (focus (intro W hW; obtain ⟨hW1, hW2, hW3⟩ := hW; go_simp; exact HasV.val rfl)); simp only [Act.put, List.setIfInBounds_toArray, List.set_cons_zero, List.set_cons_succ])
        refine J.fin ?_
        clear s0 s1 s2
        go_wp2
        go_roundw
        case rel => exact ⟨k + 1, by rw [HW.out], hkn, Lib.hid ⟨HB.out.1, HB.out.2.1⟩⟩
        case measure =>
          rw [HW.out]
          simp only [intOf]
          omega
      · have hK : lastK D m.2.2 = k := lastK_eq (by omega) HI.out.1 (fun _ => by rw [← hy, ← hyb]; omega)
        have HK := Lib.hid hK
        have hput := rvput k m hR (by omega) hl
        unfold mV at hput
        clear h hl hn hvv hVC hrV hR hrb hrbd hC2 hR0 hvo hcbk hcc hy hyb hK
        go_wp2_with fail
        refine J.wp_region_seq (fun W => W.cell? ⟨c, 1, none⟩ = some (.slice (some ⟨g, 0, none⟩) n cp) ∧ W.cell? ⟨g, k * 3 + 2, none⟩ = some (.int .i64 yb) ∧ W.cell? ⟨r, 2, none⟩ = some (.int .i64 m.2.2)) [(0, 0), (1, 0), (2, 0), (3, 0), (4, 0), (5, 0), (6, 0), (7, 0), (8, 0), (9, 0), (10, 0), (11, 0), (12, 0), (13, 0), (14, 0), (15, 0), (16, 0), (17, 0), (18, 0), (19, 0)] (by kernel_rfl) (by kernel_rfl) (by kernel_rfl) ⟨s0, s1, s2⟩ ?_
        iterate 20 (apply J.look (by rfl) (by rfl); (focus (intro W hW; obtain ⟨hW1, hW2, hW3⟩ := hW; go_simp; exact HasV.val rfl)); simp only [Act.put, List.setIfInBounds_toArray, List.set_cons_zero, List.set_cons_succ])
        refine J.fin ?_
        clear s0 s1 s2
        go_wp2_with fail
        refine hput.mono ?_
        rintro e w3 ⟨v', rfl, hR3, hC3, hn3⟩
        have HF := Lib.hid (show PutPost c tT (insD D m) w (.tuple #[]) (.returned (.tuple #[])) w3 from ⟨v', rfl, by unfold insD; rw [HK.out]; exact hR3, (HC2.out.mono (G := fun k => k = c) (fun _ _ f => f.elim)).trans hC3 (fun _ _ f => f), fun j hj => Nat.le_trans HC2.out.size (hn3 j hj)⟩)
        clear hput hR3 hC3 hn3
        go_wp2
        go_end0
        exact HF.out
    · obtain rfl : k = n := by omega
      have hK : lastK D m.2.2 = k := lastK_eq (by omega) HI.out.1 (fun hh => by omega)
      have HK := Lib.hid hK
      have hput := rvput k m hR (by omega) hl
      unfold mV at hput
      have hR0 := (h.chg hVC (fun f => f) (fun _ _ f => f)).chg HI.out.2 (fun f => f) (fun _ _ f => f)
      have s0 := (read2 hR0.cell).2
      rw [hvv] at s0
      clear h hl hn hvv hVC hrV hR hrb hrbd hC2 hR0 hK
      go_wp2_with fail
      refine J.wp_region_seq (fun W => W.cell? ⟨c, 1, none⟩ = some (.slice A k cp) ∧ True ∧ True) [(0, 0), (1, 0), (2, 0), (3, 0), (4, 0), (5, 0), (6, 0), (7, 0), (8, 0), (9, 0), (10, 0), (11, 0), (12, 0), (13, 0), (14, 0), (15, 0), (16, 0), (17, 0), (18, 0), (19, 0)] (by kernel_rfl) (by kernel_rfl) (by kernel_rfl) ⟨s0, trivial, trivial⟩ ?_
      iterate 8 (apply J.look (by rfl) (by rfl); (focus (intro W hW; obtain ⟨hW1, hW2, hW3⟩ := hW; go_simp; exact HasV.val rfl)); simp only [Act.put, List.setIfInBounds_toArray, List.set_cons_zero, List.set_cons_succ])
      iterate 11 (apply J.pass (by rfl) (by rfl); simp only [Act.put, List.setIfInBounds_toArray, List.set_cons_zero, List.set_cons_succ])
      iterate 1 (apply J.look (by rfl) (by rfl); (focus (intro W hW; obtain ⟨hW1, hW2, hW3⟩ := hW; go_simp; exact HasV.val rfl)); simp only [Act.put, List.setIfInBounds_toArray, List.set_cons_zero, List.set_cons_succ])
      refine J.fin ?_
      clear s0 s2
      go_wp2_with fail
      refine hput.mono ?_
      rintro e w3 ⟨v', rfl, hR3, hC3, hn3⟩
      have HF := Lib.hid (show PutPost c tT (insD D m) w (.tuple #[]) (.returned (.tuple #[])) w3 from ⟨v', rfl, by unfold insD; rw [HK.out]; exact hR3, (HC2.out.mono (G := fun k => k = c) (fun _ _ f => f.elim)).trans hC3 (fun _ _ f => f), fun j hj => Nat.le_trans HC2.out.size (hn3 j hj)⟩)
      clear hput hR3 hC3 hn3
      go_wp2
      go_end0
      exact HF.out
end Go.Proofs.Ythoagpagnldmeaa.V
namespace Go.Proofs.Ythoagpagnldmeaa.V
open Go.RowKit Go.Ps
theorem fndD_at {P S : List DV} {m : DV} {id : Int} (hP : ∀ x ∈ P, x.1 ≠ id) (hm : m.1 = id) : ∀ i, fndD (P ++ m :: S) id i = i + P.length := by
  induction P with
  | nil => intro i; simp [fndD, hm]
  | cons x P ih =>
    intro i
    rw [List.cons_append, fndD, if_neg (hP x (by simp)), ih (fun y hy => hP y (by simp [hy]))]
    simp only [List.length_cons]
    omega
theorem fndD_no {D : List DV} {id : Int} (h : ∀ x ∈ D, x.1 ≠ id) : ∀ i, fndD D id i = -1 := by
  induction D with
  | nil => intro i; rfl
  | cons x D ih =>
    intro i
    rw [fndD, if_neg (h x (by simp)), ih (fun y hy => h y (by simp [hy]))]
theorem split_at {D : List DV} {id : Int} (h : ∃ x ∈ D, x.1 = id) : ∃ P m S, D = P ++ m :: S ∧ (∀ x ∈ P, x.1 ≠ id) ∧ m.1 = id := by
  induction D with
  | nil => obtain ⟨x, hx, _⟩ := h; simp at hx
  | cons y D ih =>
    by_cases hy : y.1 = id
    · exact ⟨[], y, D, rfl, by simp, hy⟩
    · obtain ⟨x, hx, he⟩ := h
      rcases List.mem_cons.1 hx with rfl | hx
      · exact absurd he hy
      · obtain ⟨P, m, S, h1, h2, h3⟩ := ih ⟨x, hx, he⟩
        refine ⟨y :: P, m, S, by rw [h1]; rfl, fun z hz => ?_, h3⟩
        rcases List.mem_cons.1 hz with rfl | hz
        · exact hy
        · exact h2 z hz
/-- What a method leaves. -/
def RP (c : Nat) (tT v : Value) (D' : List DV) (w w' : World) : Prop := ∃ v', RV w' c tT v' D' ∧ Chg (fun k => k = c) w w' ∧ ∀ k, v'.ownBlock = some k → v.ownBlock = some k ∨ w.heap.size ≤ k
theorem RP.refl {c : Nat} {tT v : Value} {D : List DV} {w : World} (h : RV w c tT v D) : RP c tT v D w w := ⟨v, h, Chg.refl _ _, fun k hk => .inl hk⟩
theorem RP.calm {c : Nat} {tT v : Value} {D : List DV} {w w' : World} (h : RV w c tT v D) (hC : Chg (fun _ => False) w w') : RP c tT v D w w' := ⟨v, h.chg hC (fun f => f) (fun _ _ f => f), hC.mono (fun _ _ f => f.elim), fun k hk => .inl hk⟩
theorem RP.of_put {c : Nat} {tT v : Value} {D' : List DV} {w w1 w' : World} {r : Value} {e : Ending} (hC : Chg (fun k => k = c) w w1) (h : PutPost c tT D' w1 r e w') : e = .returned r ∧ RP c tT v D' w w' := by
  obtain ⟨v', he, h1, h2, h3⟩ := h
  exact ⟨he, v', h1, hC.trans h2 (fun _ _ f => f), fun k hk => .inr (Nat.le_trans hC.size (h3 k hk))⟩
section
variable {w : World} {c : Nat} {tT v : Value} {D P S : List DV} {m : DV} {id : Int}
theorem rfind_at (h : RV w c tT v (P ++ m :: S)) (hl : (P ++ m :: S).length ≤ 1000) (hP : ∀ x ∈ P, x.1 ≠ id) (hm : m.1 = id) : Calls Try.prog 50 #[.pointer (some ⟨c, 0, none⟩), .int .i64 id] w fun e w' => e = .returned (.int .i64 P.length) ∧ w' = w := by
  have := rvfind id h (by omega)
  rw [fndD_at hP hm, Int.zero_add] at this
  exact this
theorem rfind_no (h : RV w c tT v D) (hl : D.length ≤ 1000) (hn : ∀ x ∈ D, x.1 ≠ id) : Calls Try.prog 50 #[.pointer (some ⟨c, 0, none⟩), .int .i64 id] w fun e w' => e = .returned (.int .i64 (-1)) ∧ w' = w := by
  have := rvfind id h (by omega)
  rw [fndD_no hn] at this
  exact this
theorem rfind_gen (h : RV w c tT v D) (hl : D.length ≤ 1000) (id : Int) : ∃ x : Int, Calls Try.prog 50 #[.pointer (some ⟨c, 0, none⟩), .int .i64 id] w fun e w' => e = .returned (.int .i64 x) ∧ w' = w := ⟨_, rvfind id h (by omega)⟩
set_option maxRecDepth 20000 in
theorem rins_old (st : Int) (h : RV w c tT v D) (hl : D.length ≤ 1000) (hx : ∃ x ∈ D, x.1 = id) : Calls Try.prog 39 #[.pointer (some ⟨c, 0, none⟩), .int .i64 id, .int .u64 st] w fun e w' => e = .returned (.int .i64 6) ∧ w' = w := by
  obtain ⟨P, m, S, rfl, hP, hm⟩ := split_at hx
  have hf := rfind_at h hl hP hm
  obtain ⟨k, hk⟩ : ∃ k, k = P.length := ⟨_, rfl⟩
  rw [← hk] at hf
  clear h hl hx hP hm hk
  go_enter Try.func39, Try.ntmps39
  go_wp2_with fail
  refine hf.mono ?_
  rintro e w' ⟨rfl, rfl⟩
  clear hf
  go_wp2
  go_ret
  exact ⟨rfl, rfl⟩
set_option maxRecDepth 20000 in
set_option maxHeartbeats 2000000 in
theorem rins_new {A0 : Option Addr} {n c0 : Nat} {T : List Int} (st : Int) (h : RV w c tT v D) (htT : tT = .slice A0 n c0) (hnT : n = T.length) (hrT : ReadsI w .u64 A0 T) (hR : Ris T) (hT : T.length ≤ 100) (hl : D.length ≤ 1000) (hn : ∀ x ∈ D, x.1 ≠ id) : Calls Try.prog 39 #[.pointer (some ⟨c, 0, none⟩), .int .i64 id, .int .u64 st] w fun e w' => e = .returned (.int .i64 0) ∧ RP c tT v (insD D (id, st, (bagOf T st : Nat))) w w' := by
  have hf := rfind_no h hl hn
  have hb := rbag_any c0 hrT hR hT st
  rw [← hnT] at hb
  obtain ⟨x0, x1⟩ := read2 h.cell
  rw [htT] at x0
  obtain ⟨b, hbb⟩ : ∃ b, b = bagOf T st := ⟨_, rfl⟩
  rw [← hbb] at hb ⊢
  have HH := Lib.hid (⟨h, by omega⟩ : RV w c tT v D ∧ D.length ≤ 100000)
  clear h htT hnT hrT hR hT hl hn x1 hbb
  go_enter Try.func39, Try.ntmps39
  go_wp2_with fail
  refine hf.mono ?_
  rintro e w' ⟨rfl, hww⟩
  obtain rfl : w = w' := hww.symm
  clear hf
  go_wp2_with fail
  refine hb.mono ?_
  rintro e w1 ⟨rfl, hC⟩
  have hla := rvlast (id, st, (b : Int)) (HH.out.1.chg hC (fun f => f) (fun _ _ f => f)) HH.out.2
  unfold mV at hla
  have HC := Lib.hid hC
  clear hb x0 hC
  go_wp2_with fail
  refine hla.mono ?_
  intro e w2 hp
  obtain ⟨rfl, hRP⟩ := RP.of_put (v := v) (HC.out.mono (fun _ _ f => f.elim)) hp
  have HP := Lib.hid hRP
  clear hla hp hRP
  go_wp2
  go_ret
  exact ⟨rfl, HP.out⟩
set_option maxRecDepth 20000 in
theorem rrem_no (h : RV w c tT v D) (hl : D.length ≤ 1000) (hn : ∀ x ∈ D, x.1 ≠ id) : Calls Try.prog 41 #[.pointer (some ⟨c, 0, none⟩), .int .i64 id] w fun e w' => e = .returned (.int .i64 5) ∧ w' = w := by
  have hf := rfind_no h hl hn
  clear h hl hn
  go_enter Try.func41, Try.ntmps41
  go_wp2_with fail
  refine hf.mono ?_
  rintro e w' ⟨rfl, rfl⟩
  clear hf
  go_wp2
  go_ret
  exact ⟨rfl, rfl⟩
theorem rcut_at (h : RV w c tT v (P ++ m :: S)) (hl : (P ++ m :: S).length ≤ 1000) : Calls Try.prog 83 #[.pointer (some ⟨c, 0, none⟩), .int .i64 P.length] w (PutPost c tT (P ++ S) w (mV m)) := by
  have := rvcut P.length h (by simp) (by omega)
  rw [List.take_left, show (P ++ m :: S).drop (P.length + 1) = S by rw [← List.singleton_append, ← List.append_assoc, List.drop_left' (by simp)], show (P ++ m :: S).getD P.length d0 = m by simp [List.getD_eq_getElem?_getD]] at this
  exact this
theorem rput_at {X Y : List DV} (m : DV) (h : RV w c tT v (X ++ Y)) (hl : (X ++ Y).length ≤ 1000) : Calls Try.prog 84 #[.pointer (some ⟨c, 0, none⟩), .int .i64 X.length, mV m] w (PutPost c tT (X ++ m :: Y) w (.tuple #[])) := by
  have := rvput X.length m h (by simp) (by omega)
  rw [List.take_left, List.drop_left] at this
  exact this
set_option maxRecDepth 20000 in
theorem rrem_yes (h : RV w c tT v (P ++ m :: S)) (hl : (P ++ m :: S).length ≤ 1000) (hP : ∀ x ∈ P, x.1 ≠ id) (hm : m.1 = id) : Calls Try.prog 41 #[.pointer (some ⟨c, 0, none⟩), .int .i64 id] w fun e w' => e = .returned (.int .i64 0) ∧ RP c tT v (P ++ S) w w' := by
  have hf := rfind_at h hl hP hm
  have hc := rcut_at h hl
  unfold mV at hc
  obtain ⟨k, hk⟩ : ∃ k, k = P.length := ⟨_, rfl⟩
  rw [← hk] at hf hc
  clear h hl hP hm hk
  go_enter Try.func41, Try.ntmps41
  go_wp2_with fail
  refine hf.mono ?_
  rintro e w' ⟨rfl, hww⟩
  obtain rfl : w = w' := hww.symm
  clear hf
  go_wp2_with fail
  refine hc.mono ?_
  intro e w2 hp
  obtain ⟨rfl, hRP⟩ := RP.of_put (v := v) (Chg.refl _ _) hp
  have HP := Lib.hid hRP
  clear hc hp hRP
  go_wp2
  go_ret
  exact ⟨rfl, HP.out⟩
set_option maxRecDepth 20000 in
theorem rupd_no (st : Int) (h : RV w c tT v D) (hl : D.length ≤ 1000) (hn : ∀ x ∈ D, x.1 ≠ id) : Calls Try.prog 43 #[.pointer (some ⟨c, 0, none⟩), .int .i64 id, .int .u64 st] w fun e w' => e = .returned (.int .i64 5) ∧ w' = w := by
  have hf := rfind_no h hl hn
  clear h hl hn
  go_enter Try.func43, Try.ntmps43
  go_wp2_with fail
  refine hf.mono ?_
  rintro e w' ⟨rfl, rfl⟩
  clear hf
  go_wp2
  go_ret
  exact ⟨rfl, rfl⟩
/-- A voter cut, in a cell of the caller's, changed, and put. -/
theorem RV.after {w w1 V V2 : World} {v1 : Value} {X : List DV} {cs : Array Value} {r : Nat} (h1 : RV w1 c tT v1 X) (hC1 : Chg (fun k => k = c) w w1) (hV : V = w1.alloc (.cells cs 85)) (hr : r = w1.heap.size) (hV2 : Chg (fun k => k = r) V V2) : RV V2 c tT v1 X ∧ Chg (fun k => k = c) w V2 := by
  have hVC : Chg (fun _ => False) w1 V := by rw [hV]; exact (Chg.refl _ w1).alloc _
  have hcl := heap_lt h1.cell
  have hRV := h1.chg hVC (fun f => f) (fun _ _ f => f)
  refine ⟨hRV.chg hV2 (fun e => by omega) (fun k hk e => by have := h1.own.lt hk; omega), (hC1.trans hVC (fun _ _ f => f.elim)).trans hV2 (fun k hk e => by have := hC1.size; omega)⟩
set_option maxRecDepth 20000 in
set_option maxHeartbeats 2000000 in
theorem rupd_yes (st : Int) (h : RV w c tT v (P ++ m :: S)) (hl : (P ++ m :: S).length ≤ 1000) (hP : ∀ x ∈ P, x.1 ≠ id) (hm : m.1 = id) : Calls Try.prog 43 #[.pointer (some ⟨c, 0, none⟩), .int .i64 id, .int .u64 st] w fun e w' => e = .returned (.int .i64 0) ∧ RP c tT v (P ++ (m.1, st, m.2.2) :: S) w w' := by
  have hf := rfind_at h hl hP hm
  have hc := rcut_at h hl
  unfold mV at hc
  have hlen : (P ++ S).length ≤ 1000 := by simp at hl ⊢; omega
  obtain ⟨k, hk⟩ : ∃ k, k = P.length := ⟨_, rfl⟩
  rw [← hk] at hf hc
  have HK := Lib.hid (⟨hk, hlen⟩ : _ ∧ _)
  clear h hl hP hm hk hlen
  go_enter Try.func43, Try.ntmps43
  go_wp2_with fail
  refine hf.mono ?_
  rintro e w' ⟨rfl, hww⟩
  obtain rfl : w = w' := hww.symm
  clear hf
  go_wp2_with fail
  refine hc.mono ?_
  rintro e w1 ⟨v1, rfl, h1, hC1, hn1⟩
  obtain ⟨r, hr⟩ : ∃ r, r = w1.heap.size := ⟨_, rfl⟩
  obtain ⟨V, hV⟩ : ∃ V, V = w1.alloc (.cells #[.int .i64 m.1, .int .u64 m.2.1, .int .i64 m.2.2] 85) := ⟨_, rfl⟩
  have hb : V.heap[r]? = some (.cells #[.int .i64 m.1, .int .u64 m.2.1, .int .i64 m.2.2] 85 (0, 0)) := by rw [hV, hr]; exact heap_alloc_at _ _
  have hb2 : (V.setCell ⟨r, 1, none⟩ (.int .u64 st)).heap[r]? = some (.cells #[.int .i64 m.1, .int .u64 st, .int .i64 m.2.2] 85 (0, 0)) := by rw [heap_setCell hb]; rfl
  obtain ⟨h2, hC2⟩ := h1.after hC1 hV hr (chg1 (F := fun k => k = r) (Chg.refl _ V) rfl _ : Chg (fun k => k = r) V (V.setCell ⟨r, 1, none⟩ (.int .u64 st)))
  have hput := rput_at (m.1, st, m.2.2) h2 HK.out.2
  unfold mV at hput
  rw [← HK.out.1] at hput
  have q := frz hb
  obtain ⟨z0, z1, z2⟩ := read3 hb2
  obtain ⟨y0, y1, y2⟩ := read3 hb
  have HV := Lib.hid (⟨hV, hr⟩ : _ ∧ _)
  have HC2 := Lib.hid hC2
  clear hc h1 hC1 hn1 hV hr hb hb2 h2 hC2
  go_upto_region 5 with (fail)
  rw [← HV.out.1, ← HV.out.2]
  go_wp2_with fail
  refine hput.mono ?_
  intro e w2 hp
  obtain ⟨rfl, hRP⟩ := RP.of_put (v := v) HC2.out hp
  have HP := Lib.hid hRP
  clear hput hp hRP z0 z1 z2 q y0 y1 y2
  go_wp2
  go_ret
  exact ⟨rfl, HP.out⟩
end
end Go.Proofs.Ythoagpagnldmeaa.V
namespace Go.Proofs.Ythoagpagnldmeaa.V
open Go.RowKit Go.Ps
section
variable {w : World} {c : Nat} {tT v : Value} {D P S : List DV} {m : DV} {id : Int}
set_option maxRecDepth 20000 in
theorem rreb_no (h : RV w c tT v D) (hl : D.length ≤ 1000) (hn : ∀ x ∈ D, x.1 ≠ id) : Calls Try.prog 45 #[.pointer (some ⟨c, 0, none⟩), .int .i64 id] w fun e w' => e = .returned (.int .i64 5) ∧ w' = w := by
  have hf := rfind_no h hl hn
  clear h hl hn
  go_enter Try.func45, Try.ntmps45
  go_wp2_with fail
  refine hf.mono ?_
  rintro e w' ⟨rfl, rfl⟩
  clear hf
  go_wp2
  go_ret
  exact ⟨rfl, rfl⟩
set_option maxRecDepth 20000 in
set_option maxHeartbeats 2000000 in
theorem rreb_same {A0 : Option Addr} {n c0 : Nat} {T : List Int} (h : RV w c tT v (P ++ m :: S)) (htT : tT = .slice A0 n c0) (hnT : n = T.length) (hrT : ReadsI w .u64 A0 T) (hR : Ris T) (hT : T.length ≤ 100) (hl : (P ++ m :: S).length ≤ 1000) (hP : ∀ x ∈ P, x.1 ≠ id) (hm : m.1 = id) (hs : (bagOf T m.2.1 : Int) = m.2.2) :
    Calls Try.prog 45 #[.pointer (some ⟨c, 0, none⟩), .int .i64 id] w fun e w' => e = .returned (.int .i64 10) ∧ RP c tT v (P ++ m :: S) w w' := by
  have hf := rfind_at h hl hP hm
  have hb := rbag_any (w := w.drew) c0 (hrT.chg (Chg.refl (fun _ => False) w).drew (fun _ _ f => f)) hR hT m.2.1
  rw [← hnT] at hb
  obtain ⟨x0, x1⟩ := read2 h.cell
  obtain ⟨g, cp, cur, hvv, hvo, hcbk, _, _, hcc⟩ := h.own.at_ layD d0 (by rw [List.length_append, List.length_cons]; omega)
  have hge : (P ++ m :: S).getD P.length d0 = m := by simp [List.getD_eq_getElem?_getD]
  have hc1 := hcc P.length 1 (by simp) (by omega)
  have hc2 := hcc P.length 2 (by simp) (by omega)
  rw [hge] at hc1 hc2
  have s1 : w.cell? ⟨g, P.length * 3 + 1, none⟩ = some (.int .u64 m.2.1) := cell_of hcbk _ hc1
  have s2 : w.cell? ⟨g, P.length * 3 + 2, none⟩ = some (.int .i64 m.2.2) := cell_of hcbk _ hc2
  rw [htT] at x0
  rw [hvv] at x1
  obtain ⟨L, hL⟩ : ∃ L, L = (P ++ m :: S).length := ⟨_, rfl⟩
  rw [← hL] at x1
  obtain ⟨k, hk⟩ : ∃ k, k = P.length := ⟨_, rfl⟩
  have hkL : k < L := by rw [hk, hL]; simp
  rw [← hk] at hf s1 s2
  obtain ⟨b, hbb⟩ : ∃ b, b = bagOf T m.2.1 := ⟨_, rfl⟩
  obtain ⟨st, hst⟩ : ∃ st, st = m.2.1 := ⟨_, rfl⟩
  obtain ⟨bg, hbg⟩ : ∃ bg, bg = m.2.2 := ⟨_, rfl⟩
  rw [hs, ← hbg] at hb
  rw [← hst] at hb s1
  rw [← hbg] at s2
  have HH := Lib.hid h
  clear h htT hnT hrT hR hT hl hP hm hs hvv hvo hcbk hcc hge hc1 hc2 hL hk hbb hst hbg
  go_enter Try.func45, Try.ntmps45
  go_wp2_with fail
  refine hf.mono ?_
  rintro e w' ⟨rfl, hww⟩
  obtain rfl : w = w' := hww.symm
  clear hf
  go_wp2_with fail
  refine J.wp_region_seq (fun W => W.cell? ⟨c, 0, none⟩ = some (.slice A0 n c0) ∧ W.cell? ⟨c, 1, none⟩ = some (.slice (some ⟨g, 0, none⟩) L cp) ∧ W.cell? ⟨g, k * 3 + 1, none⟩ = some (.int .u64 st) ∧ W.cell? ⟨g, k * 3 + 2, none⟩ = some (.int .i64 bg)) [(0, 0), (1, 0), (2, 0), (3, 0), (4, 0), (5, 0), (6, 0), (7, 0), (8, 0), (9, 0), (10, 0), (11, 0), (12, 1), (13, 0), (14, 0), (15, 0), (16, 0), (17, 0)] (by kernel_rfl) (by kernel_rfl) (by kernel_rfl) ⟨x0, x1, s1, s2⟩ ?_
  iterate 12 (apply J.look (by rfl) (by rfl); (focus (intro W hW; obtain ⟨hW1, hW2, hW3, hW4⟩ := hW; go_simp; exact HasV.val rfl)); simp only [Act.put, List.setIfInBounds_toArray, List.set_cons_zero, List.set_cons_succ])
  refine J.link (fun u W' => u = .tuple #[.int .i64 bg, .int .i64 0] ∧ Chg (fun _ => False) w.drew W') (by rfl) (by rfl) ?_ (fun u W' hR => ⟨chg_cell hR.2 x0 (fun f => f), chg_cell hR.2 x1 (fun f => f), chg_cell hR.2 s1 (fun f => f), chg_cell hR.2 s2 (fun f => f)⟩) ?_
  · go_simp
    refine J.HasR.call (hb.mono ?_)
    rintro e W2 ⟨rfl, hC⟩
    exact ⟨_, rfl, rfl, hC⟩
  rintro u W1 ⟨rfl, hC⟩
  have s2' := chg_cell hC s2 (fun f => f)
  have x1' := chg_cell hC x1 (fun f => f)
  have HC := Lib.hid (((Chg.refl (fun _ => False) w).drew).trans hC (fun _ _ f => f))
  clear hb hC x0 s1 s2 x1
  simp only [Act.put, List.setIfInBounds_toArray, List.set_cons_zero, List.set_cons_succ]
  iterate 5 (apply J.look (by rfl) (by rfl); (focus (intro W hW; skip; go_simp; exact HasV.val rfl)); simp only [Act.put, List.setIfInBounds_toArray, List.set_cons_zero, List.set_cons_succ])
  refine J.fin ?_
  go_wp2
  go_ret
  exact ⟨rfl, RP.calm HH.out HC.out⟩
set_option maxRecDepth 20000 in
set_option maxHeartbeats 4000000 in
theorem rreb_yes {A0 : Option Addr} {n c0 : Nat} {T : List Int} (h : RV w c tT v (P ++ m :: S)) (htT : tT = .slice A0 n c0) (hnT : n = T.length) (hrT : ReadsI w .u64 A0 T) (hR : Ris T) (hT : T.length ≤ 100) (hl : (P ++ m :: S).length ≤ 1000) (hP : ∀ x ∈ P, x.1 ≠ id) (hm : m.1 = id) (hs : (bagOf T m.2.1 : Int) ≠ m.2.2) :
    Calls Try.prog 45 #[.pointer (some ⟨c, 0, none⟩), .int .i64 id] w fun e w' => e = .returned (.int .i64 0) ∧ RP c tT v (insD (P ++ S) (m.1, m.2.1, (bagOf T m.2.1 : Nat))) w w' := by
  have hf := rfind_at h hl hP hm
  have hb := rbag_any (w := w.drew) c0 (hrT.chg (Chg.refl (fun _ => False) w).drew (fun _ _ f => f)) hR hT m.2.1
  rw [← hnT] at hb
  obtain ⟨x0, x1⟩ := read2 h.cell
  obtain ⟨g, cp, cur, hvv, hvo, hcbk, _, _, hcc⟩ := h.own.at_ layD d0 (by rw [List.length_append, List.length_cons]; omega)
  have hge : (P ++ m :: S).getD P.length d0 = m := by simp [List.getD_eq_getElem?_getD]
  have hc1 := hcc P.length 1 (by simp) (by omega)
  have hc2 := hcc P.length 2 (by simp) (by omega)
  rw [hge] at hc1 hc2
  have s1 : w.cell? ⟨g, P.length * 3 + 1, none⟩ = some (.int .u64 m.2.1) := cell_of hcbk _ hc1
  have s2 : w.cell? ⟨g, P.length * 3 + 2, none⟩ = some (.int .i64 m.2.2) := cell_of hcbk _ hc2
  rw [htT] at x0
  rw [hvv] at x1
  obtain ⟨L, hL⟩ : ∃ L, L = (P ++ m :: S).length := ⟨_, rfl⟩
  rw [← hL] at x1
  obtain ⟨k, hk⟩ : ∃ k, k = P.length := ⟨_, rfl⟩
  have hkL : k < L := by rw [hk, hL]; simp
  rw [← hk] at hf s1 s2
  obtain ⟨b, hbb⟩ : ∃ b, b = bagOf T m.2.1 := ⟨_, rfl⟩
  obtain ⟨st, hst⟩ : ∃ st, st = m.2.1 := ⟨_, rfl⟩
  obtain ⟨bg, hbg⟩ : ∃ bg, bg = m.2.2 := ⟨_, rfl⟩
  rw [← hbb] at hb hs
  rw [← hst] at hb s1
  rw [← hbg] at s2 hs
  have hbeq : ((b : Int) == bg) = false := by simpa using hs
  have HB := Lib.hid hbb
  have HH := Lib.hid (⟨h, hl, hk, hst, hbg⟩ : _ ∧ _ ∧ _ ∧ _ ∧ _)
  clear h htT hnT hrT hR hT hl hP hm hvv hvo hcbk hcc hge hc1 hc2 hL hk hbb hst hbg
  go_enter Try.func45, Try.ntmps45
  go_wp2_with fail
  refine hf.mono ?_
  rintro e w' ⟨rfl, hww⟩
  obtain rfl : w = w' := hww.symm
  clear hf
  go_wp2_with fail
  refine J.wp_region_seq (fun W => W.cell? ⟨c, 0, none⟩ = some (.slice A0 n c0) ∧ W.cell? ⟨c, 1, none⟩ = some (.slice (some ⟨g, 0, none⟩) L cp) ∧ W.cell? ⟨g, k * 3 + 1, none⟩ = some (.int .u64 st) ∧ W.cell? ⟨g, k * 3 + 2, none⟩ = some (.int .i64 bg)) [(0, 0), (1, 0), (2, 0), (3, 0), (4, 0), (5, 0), (6, 0), (7, 0), (8, 0), (9, 0), (10, 0), (11, 0), (12, 1), (13, 0), (14, 0), (15, 0), (16, 0), (17, 0)] (by kernel_rfl) (by kernel_rfl) (by kernel_rfl) ⟨x0, x1, s1, s2⟩ ?_
  iterate 12 (apply J.look (by rfl) (by rfl); (focus (intro W hW; obtain ⟨hW1, hW2, hW3, hW4⟩ := hW; go_simp; exact HasV.val rfl)); simp only [Act.put, List.setIfInBounds_toArray, List.set_cons_zero, List.set_cons_succ])
  refine J.link (fun u W' => u = .tuple #[.int .i64 b, .int .i64 0] ∧ Chg (fun _ => False) w.drew W') (by rfl) (by rfl) ?_ (fun u W' hR => ⟨chg_cell hR.2 x0 (fun f => f), chg_cell hR.2 x1 (fun f => f), chg_cell hR.2 s1 (fun f => f), chg_cell hR.2 s2 (fun f => f)⟩) ?_
  · go_simp
    refine J.HasR.call (hb.mono ?_)
    rintro e W2 ⟨rfl, hC⟩
    exact ⟨_, rfl, rfl, hC⟩
  rintro u W1 ⟨rfl, hC⟩
  have s2' := chg_cell hC s2 (fun f => f)
  have x1' := chg_cell hC x1 (fun f => f)
  have HC := Lib.hid (((Chg.refl (fun _ => False) w).drew).trans hC (fun _ _ f => f))
  clear hb hC x0 s1 s2 x1
  simp only [Act.put, List.setIfInBounds_toArray, List.set_cons_zero, List.set_cons_succ]
  iterate 5 (apply J.look (by rfl) (by rfl); (focus (intro W hW; skip; go_simp; exact HasV.val rfl)); simp only [Act.put, List.setIfInBounds_toArray, List.set_cons_zero, List.set_cons_succ])
  refine J.fin ?_
  obtain ⟨h, hl, hk, hst, hbg⟩ := HH.out
  have hc := rcut_at (h.chg HC.out (fun f => f) (fun _ _ f => f)) hl
  unfold mV at hc
  rw [← hk, ← hst, ← hbg] at hc
  clear h hl hk hst hbg
  go_wp2_with fail
  refine hc.mono ?_
  rintro e w1 ⟨v1, rfl, h1, hC1, hn1⟩
  obtain ⟨h, hl, hk, hst, hbg⟩ := HH.out
  obtain ⟨r, hr⟩ : ∃ r, r = w1.heap.size := ⟨_, rfl⟩
  obtain ⟨V, hV⟩ : ∃ V, V = w1.alloc (.cells #[.int .i64 m.1, .int .u64 st, .int .i64 bg] 85) := ⟨_, rfl⟩
  have hb : V.heap[r]? = some (.cells #[.int .i64 m.1, .int .u64 st, .int .i64 bg] 85 (0, 0)) := by rw [hV, hr]; exact heap_alloc_at _ _
  have hb2 : (V.setCell ⟨r, 2, none⟩ (.int .i64 b)).heap[r]? = some (.cells #[.int .i64 m.1, .int .u64 st, .int .i64 b] 85 (0, 0)) := by rw [heap_setCell hb]; rfl
  obtain ⟨h2, hC2⟩ := h1.after ((HC.out.mono (G := fun k => k = c) (fun _ _ f => f.elim)).trans hC1 (fun _ _ f => f)) hV hr (chg1 (F := fun k => k = r) (Chg.refl _ V) rfl _ : Chg (fun k => k = r) V (V.setCell ⟨r, 2, none⟩ (.int .i64 b)))
  have hla := rvlast (m.1, st, (b : Int)) h2 (by simp at hl ⊢; omega)
  unfold mV at hla
  have q := frz hb
  obtain ⟨z0, z1, z2⟩ := read3 hb2
  obtain ⟨y0, y1, y2⟩ := read3 hb
  have HV := Lib.hid (⟨hV, hr⟩ : _ ∧ _)
  have HC2 := Lib.hid hC2
  clear hc h1 hC1 hn1 hV hr hb hb2 h2 hC2 h hl hk hst hbg x1' s2'
  go_upto_region 8 with (fail)
  rw [← HV.out.1, ← HV.out.2]
  go_wp2_with fail
  refine hla.mono ?_
  intro e w2 hp
  obtain ⟨rfl, hRP⟩ := RP.of_put (v := v) HC2.out hp
  rw [HB.out, HH.out.2.2.2.1] at hRP
  have HP := Lib.hid hRP
  clear hla hp hRP z0 z1 z2 q y0 y1 y2
  go_wp2
  go_ret
  exact ⟨rfl, HP.out⟩
end
end Go.Proofs.Ythoagpagnldmeaa.V
namespace Go.Proofs.Ythoagpagnldmeaa.V
open Go.RowKit Go.Ps
section
variable {w : World} {c : Nat} {tT v : Value} {D P S : List DV} {m q : DV} {id of : Int}
set_option maxRecDepth 20000 in
theorem rfro_no (h : RV w c tT v D) (hl : D.length ≤ 1000) (hn : (∀ x ∈ D, x.1 ≠ id) ∨ (∀ x ∈ D, x.1 ≠ of)) : Calls Try.prog 47 #[.pointer (some ⟨c, 0, none⟩), .int .i64 id, .int .i64 of] w fun e w' => e = .returned (.int .i64 5) ∧ w' = w := by
  by_cases h1 : ∀ x ∈ D, x.1 ≠ id
  · have hf1 := rfind_no h hl h1
    obtain ⟨x, hf2⟩ := rfind_gen h hl of
    clear h hl hn h1
    go_enter Try.func47, Try.ntmps47
    go_wp2_with fail
    refine hf1.mono ?_
    rintro e w' ⟨rfl, hww⟩
    obtain rfl : w = w' := hww.symm
    clear hf1
    go_wp2_with fail
    refine hf2.mono ?_
    rintro e w' ⟨rfl, hww⟩
    obtain rfl : w = w' := hww.symm
    clear hf2
    go_wp2
    go_ret
    exact ⟨rfl, rfl⟩
  · have h2 := hn.resolve_left h1
    obtain ⟨x, hx, he⟩ : ∃ x, x ∈ D ∧ x.1 = id := by
      refine Classical.byContradiction fun hc => h1 fun x hx he => hc ⟨x, hx, he⟩
    obtain ⟨P, m, S, rfl, hP, hm⟩ := split_at ⟨x, hx, he⟩
    have hf1 := rfind_at h hl hP hm
    have hf2 := rfind_no h hl h2
    obtain ⟨k, hk⟩ : ∃ k, k = P.length := ⟨_, rfl⟩
    rw [← hk] at hf1
    clear h hl hn h1 h2 hx he hP hm hk
    go_enter Try.func47, Try.ntmps47
    go_wp2_with fail
    refine hf1.mono ?_
    rintro e w' ⟨rfl, hww⟩
    obtain rfl : w = w' := hww.symm
    clear hf1
    go_wp2_with fail
    refine hf2.mono ?_
    rintro e w' ⟨rfl, hww⟩
    obtain rfl : w = w' := hww.symm
    clear hf2
    go_wp2
    go_ret
    exact ⟨rfl, rfl⟩
/-- Found at an index. -/
theorem rfind_idx {k : Nat} (h : RV w c tT v D) (hl : D.length ≤ 1000) (hk : D[k]? = some m) (hnd : (D.map (·.1)).Nodup) : Calls Try.prog 50 #[.pointer (some ⟨c, 0, none⟩), .int .i64 m.1] w fun e w' => e = .returned (.int .i64 k) ∧ w' = w := by
  obtain ⟨hlt, he⟩ := List.getElem?_eq_some_iff.1 hk
  have hD : D = D.take k ++ m :: D.drop (k + 1) := by
    rw [← he, ← List.drop_eq_getElem_cons hlt, List.take_append_drop]
  have hlen : (D.take k).length = k := by rw [List.length_take]; omega
  have hP : ∀ x ∈ D.take k, x.1 ≠ m.1 := by
    intro x hx e
    rw [hD, List.map_append, List.map_cons, List.nodup_append] at hnd
    exact hnd.2.2 x.1 (List.mem_map.2 ⟨x, hx, rfl⟩) m.1 (by simp) e
  have h2 : RV w c tT v (D.take k ++ m :: D.drop (k + 1)) := by rw [← hD]; exact h
  have := rfind_at (id := m.1) h2 (by rw [← hD]; exact hl) hP rfl
  rw [hlen] at this
  exact this
set_option maxRecDepth 20000 in
set_option maxHeartbeats 4000000 in
theorem rfro_state {k1 k2 : Nat} (h : RV w c tT v D) (hl : D.length ≤ 1000) (hnd : (D.map (·.1)).Nodup) (h1 : D[k1]? = some m) (h2 : D[k2]? = some q) (hc : k1 = k2 ∨ m.2.2 ≠ q.2.2 ∨ m.2.1 ≤ q.2.1) : Calls Try.prog 47 #[.pointer (some ⟨c, 0, none⟩), .int .i64 m.1, .int .i64 q.1] w fun e w' => e = .returned (.int .i64 10) ∧ Chg (fun _ => False) w w' := by
  have hf1 := rfind_idx h hl h1 hnd
  have hf2 := rfind_idx h hl h2 hnd
  obtain ⟨x0, x1⟩ := read2 h.cell
  clear x0
  obtain ⟨g, cp, cur, hvv, hvo, hcbk, _, _, hcc⟩ := h.own.at_ layD d0 (by have := (List.getElem?_eq_some_iff.1 h1).1; omega)
  have a1 := (List.getElem?_eq_some_iff.1 h1).1
  have a2 := (List.getElem?_eq_some_iff.1 h2).1
  have g1 : D.getD k1 d0 = m := by rw [List.getD_eq_getElem?_getD, h1]; rfl
  have g2 : D.getD k2 d0 = q := by rw [List.getD_eq_getElem?_getD, h2]; rfl
  have c11 := hcc k1 1 a1 (by omega)
  have c12 := hcc k1 2 a1 (by omega)
  have c21 := hcc k2 1 a2 (by omega)
  have c22 := hcc k2 2 a2 (by omega)
  rw [g1] at c11 c12
  rw [g2] at c21 c22
  have s1 : w.cell? ⟨g, k1 * 3 + 1, none⟩ = some (.int .u64 m.2.1) := cell_of hcbk _ c11
  have s2 : w.cell? ⟨g, k1 * 3 + 2, none⟩ = some (.int .i64 m.2.2) := cell_of hcbk _ c12
  have s3 : w.cell? ⟨g, k2 * 3 + 1, none⟩ = some (.int .u64 q.2.1) := cell_of hcbk _ c21
  have s4 : w.cell? ⟨g, k2 * 3 + 2, none⟩ = some (.int .i64 q.2.2) := cell_of hcbk _ c22
  rw [hvv] at x1
  obtain ⟨L, hL⟩ : ∃ L, L = D.length := ⟨_, rfl⟩
  rw [← hL] at x1 a1 a2
  obtain ⟨st1, hst1⟩ : ∃ st, st = m.2.1 := ⟨_, rfl⟩
  obtain ⟨bg1, hbg1⟩ : ∃ bg, bg = m.2.2 := ⟨_, rfl⟩
  obtain ⟨st2, hst2⟩ : ∃ st, st = q.2.1 := ⟨_, rfl⟩
  obtain ⟨bg2, hbg2⟩ : ∃ bg, bg = q.2.2 := ⟨_, rfl⟩
  rw [← hst1] at s1
  rw [← hbg1] at s2
  rw [← hst2] at s3
  rw [← hbg2] at s4
  by_cases hk : k1 = k2
  · have HNE := Lib.hid trivial
    subst hk
    obtain rfl : st1 = st2 := by rw [h1] at h2; cases h2; rw [hst1, hst2]
    obtain rfl : bg1 = bg2 := by rw [h1] at h2; cases h2; rw [hbg1, hbg2]
    clear h hl hnd h1 h2 hc hvv hvo hcbk hcc g1 g2 c11 c12 c21 c22 hL hst1 hbg1 hst2 hbg2
    go_enter Try.func47, Try.ntmps47
    go_wp2_with fail
    refine hf1.mono ?_
    rintro e w' ⟨rfl, hww⟩
    obtain rfl : w = w' := hww.symm
    clear hf1
    go_wp2_with fail
    refine hf2.mono ?_
    rintro e w' ⟨rfl, hww⟩
    obtain rfl : w = w' := hww.symm
    clear hf2
    go_wp2_with fail
    refine J.wp_region_seq (fun W => W.cell? ⟨c, 1, none⟩ = some (.slice (some ⟨g, 0, none⟩) L cp) ∧ W.cell? ⟨g, k1 * 3 + 1, none⟩ = some (.int .u64 st1) ∧ W.cell? ⟨g, k1 * 3 + 2, none⟩ = some (.int .i64 bg1) ∧ W.cell? ⟨g, k1 * 3 + 1, none⟩ = some (.int .u64 st1) ∧ W.cell? ⟨g, k1 * 3 + 2, none⟩ = some (.int .i64 bg1)) [(0, 0), (1, 0), (2, 0), (3, 0), (4, 0), (5, 0), (6, 0), (7, 0), (8, 0), (9, 0), (10, 0), (11, 0), (12, 0), (13, 0), (14, 0), (15, 0), (16, 0), (17, 0), (18, 0), (19, 0), (20, 0), (21, 0), (22, 0), (23, 0), (24, 0), (25, 0), (26, 0), (27, 0), (28, 0), (29, 0), (30, 0), (31, 0), (32, 0), (33, 0), (34, 0), (35, 0), (36, 0), (37, 0), (38, 0), (39, 0), (40, 0)] (by kernel_rfl) (by kernel_rfl) (by kernel_rfl) ⟨x1, s1, s2, s3, s4⟩ ?_
    iterate 4 (apply J.look (by rfl) (by rfl); (focus (intro W hW; obtain ⟨hW1, hW2, hW3, hW4, hW5⟩ := hW; have hNE := HNE.out; go_simp; exact HasV.val rfl)); simp only [Act.put, List.setIfInBounds_toArray, List.set_cons_zero, List.set_cons_succ])
    iterate 17 (apply J.pass (by rfl) (by rfl); simp only [Act.put, List.setIfInBounds_toArray, List.set_cons_zero, List.set_cons_succ])
    iterate 2 (apply J.look (by rfl) (by rfl); (focus (intro W hW; obtain ⟨hW1, hW2, hW3, hW4, hW5⟩ := hW; have hNE := HNE.out; go_simp; exact HasV.val rfl)); simp only [Act.put, List.setIfInBounds_toArray, List.set_cons_zero, List.set_cons_succ])
    iterate 17 (apply J.pass (by rfl) (by rfl); simp only [Act.put, List.setIfInBounds_toArray, List.set_cons_zero, List.set_cons_succ])
    iterate 1 (apply J.look (by rfl) (by rfl); (focus (intro W hW; obtain ⟨hW1, hW2, hW3, hW4, hW5⟩ := hW; have hNE := HNE.out; go_simp; exact HasV.val rfl)); simp only [Act.put, List.setIfInBounds_toArray, List.set_cons_zero, List.set_cons_succ])
    refine J.fin ?_
    clear x1 s1 s2 s3 s4
    go_wp2
    go_ret
    exact ⟨rfl, (Chg.refl _ w).drew⟩
  · have hne : ((k1 : Int) == (k2 : Int)) = false := by simp; omega
    by_cases hb : bg1 = bg2
    · have hle : st1 ≤ st2 := by
        rcases hc with h3 | h3 | h3
        · exact absurd h3 hk
        · exact absurd (by rw [← hbg1, ← hbg2, hb]) h3
        · rw [hst1, hst2]; exact h3
      subst hb
      have HNE := Lib.hid (⟨hne, hle⟩ : _ ∧ _)
      clear h hl hnd h1 h2 hc hvv hvo hcbk hcc g1 g2 c11 c12 c21 c22 hL hst1 hbg1 hst2 hbg2 hne hle hk
      go_enter Try.func47, Try.ntmps47
      go_wp2_with fail
      refine hf1.mono ?_
      rintro e w' ⟨rfl, hww⟩
      obtain rfl : w = w' := hww.symm
      clear hf1
      go_wp2_with fail
      refine hf2.mono ?_
      rintro e w' ⟨rfl, hww⟩
      obtain rfl : w = w' := hww.symm
      clear hf2
      go_wp2_with fail
      refine J.wp_region_seq (fun W => W.cell? ⟨c, 1, none⟩ = some (.slice (some ⟨g, 0, none⟩) L cp) ∧ W.cell? ⟨g, k1 * 3 + 1, none⟩ = some (.int .u64 st1) ∧ W.cell? ⟨g, k1 * 3 + 2, none⟩ = some (.int .i64 bg1) ∧ W.cell? ⟨g, k2 * 3 + 1, none⟩ = some (.int .u64 st2) ∧ W.cell? ⟨g, k2 * 3 + 2, none⟩ = some (.int .i64 bg1)) [(0, 0), (1, 0), (2, 0), (3, 0), (4, 0), (5, 0), (6, 0), (7, 0), (8, 0), (9, 0), (10, 0), (11, 0), (12, 0), (13, 0), (14, 0), (15, 0), (16, 0), (17, 0), (18, 0), (19, 0), (20, 0), (21, 0), (22, 0), (23, 0), (24, 0), (25, 0), (26, 0), (27, 0), (28, 0), (29, 0), (30, 0), (31, 0), (32, 0), (33, 0), (34, 0), (35, 0), (36, 0), (37, 0), (38, 0), (39, 0), (40, 0)] (by kernel_rfl) (by kernel_rfl) (by kernel_rfl) ⟨x1, s1, s2, s3, s4⟩ ?_
      iterate 41 (apply J.look (by rfl) (by rfl); (focus (intro W hW; obtain ⟨hW1, hW2, hW3, hW4, hW5⟩ := hW; obtain ⟨hNE, hLE⟩ := HNE.out; go_simp; exact HasV.val rfl)); simp only [Act.put, List.setIfInBounds_toArray, List.set_cons_zero, List.set_cons_succ])
      refine J.fin ?_
      clear x1 s1 s2 s3 s4
      go_wp2
      go_ret
      exact ⟨rfl, (Chg.refl _ w).drew⟩
    · have hb2 : (bg1 != bg2) = true := by simpa using hb
      have HNE := Lib.hid (⟨hne, hb2⟩ : _ ∧ _)
      clear h hl hnd h1 h2 hc hvv hvo hcbk hcc g1 g2 c11 c12 c21 c22 hL hst1 hbg1 hst2 hbg2 hne hb hb2 hk
      go_enter Try.func47, Try.ntmps47
      go_wp2_with fail
      refine hf1.mono ?_
      rintro e w' ⟨rfl, hww⟩
      obtain rfl : w = w' := hww.symm
      clear hf1
      go_wp2_with fail
      refine hf2.mono ?_
      rintro e w' ⟨rfl, hww⟩
      obtain rfl : w = w' := hww.symm
      clear hf2
      go_wp2_with fail
      refine J.wp_region_seq (fun W => W.cell? ⟨c, 1, none⟩ = some (.slice (some ⟨g, 0, none⟩) L cp) ∧ W.cell? ⟨g, k1 * 3 + 1, none⟩ = some (.int .u64 st1) ∧ W.cell? ⟨g, k1 * 3 + 2, none⟩ = some (.int .i64 bg1) ∧ W.cell? ⟨g, k2 * 3 + 1, none⟩ = some (.int .u64 st2) ∧ W.cell? ⟨g, k2 * 3 + 2, none⟩ = some (.int .i64 bg2)) [(0, 0), (1, 0), (2, 0), (3, 0), (4, 0), (5, 0), (6, 0), (7, 0), (8, 0), (9, 0), (10, 0), (11, 0), (12, 0), (13, 0), (14, 0), (15, 0), (16, 0), (17, 0), (18, 0), (19, 0), (20, 0), (21, 0), (22, 0), (23, 0), (24, 0), (25, 0), (26, 0), (27, 0), (28, 0), (29, 0), (30, 0), (31, 0), (32, 0), (33, 0), (34, 0), (35, 0), (36, 0), (37, 0), (38, 0), (39, 0), (40, 0)] (by kernel_rfl) (by kernel_rfl) (by kernel_rfl) ⟨x1, s1, s2, s3, s4⟩ ?_
      iterate 23 (apply J.look (by rfl) (by rfl); (focus (intro W hW; obtain ⟨hW1, hW2, hW3, hW4, hW5⟩ := hW; obtain ⟨hNE, hLE⟩ := HNE.out; go_simp; exact HasV.val rfl)); simp only [Act.put, List.setIfInBounds_toArray, List.set_cons_zero, List.set_cons_succ])
      iterate 17 (apply J.pass (by rfl) (by rfl); simp only [Act.put, List.setIfInBounds_toArray, List.set_cons_zero, List.set_cons_succ])
      iterate 1 (apply J.look (by rfl) (by rfl); (focus (intro W hW; obtain ⟨hW1, hW2, hW3, hW4, hW5⟩ := hW; obtain ⟨hNE, hLE⟩ := HNE.out; go_simp; exact HasV.val rfl)); simp only [Act.put, List.setIfInBounds_toArray, List.set_cons_zero, List.set_cons_succ])
      refine J.fin ?_
      clear x1 s1 s2 s3 s4
      go_wp2
      go_ret
      exact ⟨rfl, (Chg.refl _ w).drew⟩
end
end Go.Proofs.Ythoagpagnldmeaa.V
namespace Go.Proofs.Ythoagpagnldmeaa.V
open Go.RowKit Go.Ps
section
variable {w : World} {c : Nat} {tT v : Value} {D P S P' S' : List DV} {m q : DV}
set_option maxRecDepth 20000 in
set_option maxHeartbeats 4000000 in
theorem rfro_yes (h : RV w c tT v (P ++ m :: S)) (hl : (P ++ m :: S).length ≤ 1000) (hnd : ((P ++ m :: S).map (·.1)).Nodup) (hPS : P ++ S = P' ++ q :: S') (hb : m.2.2 = q.2.2) (hs : ¬ m.2.1 ≤ q.2.1) :
    Calls Try.prog 47 #[.pointer (some ⟨c, 0, none⟩), .int .i64 m.1, .int .i64 q.1] w fun e w' => e = .returned (.int .i64 0) ∧ RP c tT v (P' ++ m :: q :: S') w w' := by
  obtain ⟨D, hD⟩ : ∃ D, D = P ++ m :: S := ⟨_, rfl⟩
  obtain ⟨k1, hk1⟩ : ∃ k, k = P.length := ⟨_, rfl⟩
  have hh := h
  have hll := hl
  have hndd := hnd
  rw [← hD] at h hl hnd
  have h1 : D[k1]? = some m := by rw [hD, hk1]; simp
  have hqm : q ∈ D := by
    have : q ∈ P ++ S := by rw [hPS]; simp
    rw [hD]
    rcases List.mem_append.1 this with h3 | h3 <;> simp [h3]
  obtain ⟨k2, hk2, hq2⟩ := List.mem_iff_getElem.1 hqm
  have h2 : D[k2]? = some q := by rw [List.getElem?_eq_getElem hk2, hq2]
  have hqne : q.1 ≠ m.1 := by
    have : q ∈ P ++ S := by rw [hPS]; simp
    rw [List.map_append, List.map_cons, List.nodup_append, List.nodup_cons] at hndd
    obtain ⟨_, ⟨n1, _⟩, n2⟩ := hndd
    rcases List.mem_append.1 this with h3 | h3
    · exact n2 _ (List.mem_map.2 ⟨q, h3, rfl⟩) m.1 (by simp)
    · exact fun e => n1 (List.mem_map.2 ⟨q, h3, e⟩)
  have hk : k1 ≠ k2 := fun e => by
    subst e
    rw [h1] at h2
    cases h2
    exact hqne rfl
  have hP' : ∀ x ∈ P', x.1 ≠ q.1 := by
    have h3 : ((P ++ S).map (·.1)).Nodup := by
      refine List.Nodup.sublist ?_ hndd
      exact ((List.Sublist.refl P).append (List.sublist_cons_self m S)).map _
    rw [hPS, List.map_append, List.map_cons, List.nodup_append] at h3
    intro x hx e
    exact h3.2.2 x.1 (List.mem_map.2 ⟨x, hx, rfl⟩) q.1 (by simp) e
  have hlen2 : (P ++ S).length ≤ 1000 := by simp at hll ⊢; omega
  have hf1 := rfind_idx h hl h1 hnd
  have hf2 := rfind_idx h hl h2 hnd
  obtain ⟨x0, x1⟩ := read2 h.cell
  clear x0
  obtain ⟨g, cp, cur, hvv, hvo, hcbk, _, _, hcc⟩ := h.own.at_ layD d0 (by have := (List.getElem?_eq_some_iff.1 h1).1; omega)
  have a1 := (List.getElem?_eq_some_iff.1 h1).1
  have a2 := (List.getElem?_eq_some_iff.1 h2).1
  have g1 : D.getD k1 d0 = m := by rw [List.getD_eq_getElem?_getD, h1]; rfl
  have g2 : D.getD k2 d0 = q := by rw [List.getD_eq_getElem?_getD, h2]; rfl
  have c11 := hcc k1 1 a1 (by omega)
  have c12 := hcc k1 2 a1 (by omega)
  have c21 := hcc k2 1 a2 (by omega)
  have c22 := hcc k2 2 a2 (by omega)
  rw [g1] at c11 c12
  rw [g2] at c21 c22
  have s1 : w.cell? ⟨g, k1 * 3 + 1, none⟩ = some (.int .u64 m.2.1) := cell_of hcbk _ c11
  have s2 : w.cell? ⟨g, k1 * 3 + 2, none⟩ = some (.int .i64 m.2.2) := cell_of hcbk _ c12
  have s3 : w.cell? ⟨g, k2 * 3 + 1, none⟩ = some (.int .u64 q.2.1) := cell_of hcbk _ c21
  have s4 : w.cell? ⟨g, k2 * 3 + 2, none⟩ = some (.int .i64 q.2.2) := cell_of hcbk _ c22
  rw [hvv] at x1
  obtain ⟨L, hL⟩ : ∃ L, L = D.length := ⟨_, rfl⟩
  rw [← hL] at x1 a1 a2
  obtain ⟨st1, hst1⟩ : ∃ st, st = m.2.1 := ⟨_, rfl⟩
  obtain ⟨bg1, hbg1⟩ : ∃ bg, bg = m.2.2 := ⟨_, rfl⟩
  obtain ⟨st2, hst2⟩ : ∃ st, st = q.2.1 := ⟨_, rfl⟩
  obtain ⟨bg2, hbg2⟩ : ∃ bg, bg = q.2.2 := ⟨_, rfl⟩
  rw [← hst1] at s1
  rw [← hbg1] at s2
  rw [← hst2] at s3
  rw [← hbg2] at s4
  have hne : ((k1 : Int) == (k2 : Int)) = false := by simp; omega
  obtain rfl : bg1 = bg2 := by rw [hbg1, hbg2, hb]
  have hle : decide (st1 ≤ st2) = false := by rw [hst1, hst2]; simpa using hs
  have HNE := Lib.hid (⟨hne, hle⟩ : _ ∧ _)
  have hdr : Chg (fun _ => False) w w.drew := (Chg.refl _ w).drew
  have hc := rcut_at (hh.chg hdr (fun f => f) (fun _ _ f => f)) hll
  unfold mV at hc
  rw [← hk1, ← hst1, ← hbg1] at hc
  have HH := Lib.hid (⟨hPS, hP', hlen2, hst1, hbg1⟩ : _ ∧ _ ∧ _ ∧ _ ∧ _)
  have Hdr := Lib.hid hdr
  clear h hl hnd hh hll hndd h1 h2 hvv hvo hcbk hcc g1 g2 c11 c12 c21 c22 hL hst1 hbg1 hst2 hbg2 hne hle hk hPS hP' hlen2 hqm hq2 hqne hb hs hD hk1 hdr
  go_enter Try.func47, Try.ntmps47
  go_wp2_with fail
  refine hf1.mono ?_
  rintro e w' ⟨rfl, hww⟩
  obtain rfl : w = w' := hww.symm
  clear hf1
  go_wp2_with fail
  refine hf2.mono ?_
  rintro e w' ⟨rfl, hww⟩
  obtain rfl : w = w' := hww.symm
  clear hf2
  go_wp2_with fail
  refine J.wp_region_seq (fun W => W.cell? ⟨c, 1, none⟩ = some (.slice (some ⟨g, 0, none⟩) L cp) ∧ W.cell? ⟨g, k1 * 3 + 1, none⟩ = some (.int .u64 st1) ∧ W.cell? ⟨g, k1 * 3 + 2, none⟩ = some (.int .i64 bg1) ∧ W.cell? ⟨g, k2 * 3 + 1, none⟩ = some (.int .u64 st2) ∧ W.cell? ⟨g, k2 * 3 + 2, none⟩ = some (.int .i64 bg1)) [(0, 0), (1, 0), (2, 0), (3, 0), (4, 0), (5, 0), (6, 0), (7, 0), (8, 0), (9, 0), (10, 0), (11, 0), (12, 0), (13, 0), (14, 0), (15, 0), (16, 0), (17, 0), (18, 0), (19, 0), (20, 0), (21, 0), (22, 0), (23, 0), (24, 0), (25, 0), (26, 0), (27, 0), (28, 0), (29, 0), (30, 0), (31, 0), (32, 0), (33, 0), (34, 0), (35, 0), (36, 0), (37, 0), (38, 0), (39, 0), (40, 0)] (by kernel_rfl) (by kernel_rfl) (by kernel_rfl) ⟨x1, s1, s2, s3, s4⟩ ?_
  iterate 41 (apply J.look (by rfl) (by rfl); (focus (intro W hW; obtain ⟨hW1, hW2, hW3, hW4, hW5⟩ := hW; obtain ⟨hNE, hLE⟩ := HNE.out; go_simp; exact HasV.val rfl)); simp only [Act.put, List.setIfInBounds_toArray, List.set_cons_zero, List.set_cons_succ])
  refine J.fin ?_
  clear x1 s1 s2 s3 s4
  go_wp2_with fail
  refine hc.mono ?_
  rintro e w1 ⟨v1, rfl, h1, hC1, hn1⟩
  obtain ⟨hPS, hP', hlen2, hst1, hbg1⟩ := HH.out
  obtain ⟨r, hr⟩ : ∃ r, r = w1.heap.size := ⟨_, rfl⟩
  obtain ⟨V, hV⟩ : ∃ V, V = w1.alloc (.cells #[.int .i64 m.1, .int .u64 st1, .int .i64 bg1] 85) := ⟨_, rfl⟩
  have hb : V.heap[r]? = some (.cells #[.int .i64 m.1, .int .u64 st1, .int .i64 bg1] 85 (0, 0)) := by rw [hV, hr]; exact heap_alloc_at _ _
  obtain ⟨h2, hC2⟩ := h1.after ((Hdr.out.mono (G := fun k => k = c) (fun _ _ f => f.elim)).trans hC1 (fun _ _ f => f)) hV hr (Chg.refl _ V)
  rw [hPS] at h2 hlen2
  have h3 := h2.chg (F := fun _ => False) ((Chg.refl _ V).drew) (fun f => f) (fun _ _ f => f)
  have hput := rput_at m h3 hlen2
  unfold mV at hput
  rw [← hst1, ← hbg1] at hput
  have hfn := fun (W : World) (hW : RV W c tT v1 (P' ++ q :: S')) => rfind_at (id := q.1) hW hlen2 hP' rfl
  obtain ⟨k3, hk3⟩ : ∃ k, k = P'.length := ⟨_, rfl⟩
  rw [← hk3] at hput
  simp only [← hk3] at hfn
  have HV := Lib.hid (⟨hV, hr⟩ : _ ∧ _)
  have HC2 := Lib.hid (hC2.trans ((Chg.refl (fun k => k = c) V).drew) (fun _ _ f => f))
  have HB := Lib.hid (⟨h3, (hb : V.drew.heap[r]? = _)⟩ : _ ∧ _)
  have HFN := Lib.hid hfn
  have HPUT := Lib.hid hput
  clear hc h1 hC1 hn1 hV hr hb h2 hC2 h3 hput hfn hPS hP' hlen2 hst1 hbg1 hk3
  go_upto_region 7 with (fail)
  rw [← HV.out.1, ← HV.out.2]
  refine J.wp_region_seq (fun W => RV W c tT v1 (P' ++ q :: S') ∧ W.heap[r]? = some (.cells #[.int .i64 m.1, .int .u64 st1, .int .i64 bg1] 85 (0, 0))) [(0, 0), (1, 0), (2, 0), (3, 0), (4, 0), (5, 1)] (by kernel_rfl) (by kernel_rfl) (by kernel_rfl) HB.out ?_
  iterate 3 (apply J.look (by rfl) (by rfl); (focus (intro W hW; go_simp; exact HasV.val rfl)); simp only [Act.put, List.setIfInBounds_toArray, List.set_cons_zero, List.set_cons_succ])
  apply J.look (v := .int .i64 k3) (by rfl) (by rfl)
  focus
    intro W hW
    go_simp
    exact HasV.call (HFN.out W hW.1) (fun _ h => h)
  simp only [Act.put, List.setIfInBounds_toArray, List.set_cons_zero, List.set_cons_succ]
  apply J.look (by rfl) (by rfl)
  focus
    intro W hW
    obtain ⟨hW1, hW2, hW3⟩ := read3 hW.2
    go_simp
    exact HasV.val rfl
  simp only [Act.put, List.setIfInBounds_toArray, List.set_cons_zero, List.set_cons_succ]
  refine J.final (fun u W => RP c tT v (P' ++ m :: q :: S') w W) (by rfl) (by rfl) (by kernel_rfl) ?_ ?_
  · go_simp
    refine J.HasR.call (HPUT.out.mono ?_)
    intro e W2 hp
    obtain ⟨rfl, hRP⟩ := RP.of_put (v := v) HC2.out hp
    exact ⟨_, rfl, hRP⟩
  intro u W1 hRP
  have HP := Lib.hid hRP
  clear hRP
  simp only [Act.put, List.setIfInBounds_toArray, List.set_cons_zero, List.set_cons_succ]
  refine J.fin ?_
  go_wp2
  go_ret
  exact ⟨rfl, HP.out⟩
end
end Go.Proofs.Ythoagpagnldmeaa.V
