/- Voters: Insert, Len; awake. -/
import Derived.Test.YthoagpagnldmeaaVo
set_option linter.unusedVariables false
set_option linter.unusedSimpArgs false
namespace Go.Proofs.Ythoagpagnldmeaa.V
open Go.RowKit Go.Ps
theorem zero119 (w : World) : (zeroValue 119).run Try.prog w = .ok (.pointer none) w := by kernel_rfl
set_option maxRecDepth 20000 in
theorem find0 {w : World} {g bm gc : Nat} {v : Value} (k : Int) (h : V0 w g bm gc v) : Calls Try.prog 77 #[.pointer (some ⟨g, 0, none⟩), .int .i64 k] w fun e w' => e = .returned (.tuple #[.pointer none, .int .i64 5]) ∧ w' = w := by
  obtain ⟨x0, x1, x2⟩ := read3 h.cell
  have hr := h.map.look Try.underlying115 Try.underlying3 (zero119 w) k false
  simp only [Bool.false_eq_true, if_false, IM.get_nil] at hr
  have qT : ∀ (w : World) (r : Option Nat), (binOp .eql 115 (.map r) (.map none)).run Try.prog w = .ok (.bool r.isNone) w := fun w r => run_eql_map_nil w _ _ _ r Try.underlying115
  clear h x1
  go_enter Try.func77, Try.ntmps77
  go_wp2
  go_ret2
  exact ⟨rfl, rfl⟩
set_option maxRecDepth 20000 in
theorem vbag0 {w : World} {g bm gc : Nat} {v : Value} (s : Int) (h : V0 w g bm gc v) : Calls Try.prog 78 #[.pointer (some ⟨g, 0, none⟩), .int .u64 s] w fun e w' => e = .returned (.int .i64 0) ∧ w' = w := by
  obtain ⟨x0, x1, x2⟩ := read3 h.cell
  clear h x1 x2
  go_enter Try.func78, Try.ntmps78
  go_wp2_with fail
  refine (bag0 _ _).mono ?_
  rintro e w' ⟨rfl, rfl⟩
  go_wp2
  go_ret
  exact ⟨rfl, rfl⟩
set_option maxRecDepth 20000 in
theorem vlen {w : World} {g bm : Nat} {v0 v1 : Value} {ps : List (Int × Value)} (hc : w.heap[g]? = some (.cells #[v0, v1, .map (some bm)] 118 (0, 0))) (hm : IMap w bm ps) : Calls Try.prog 52 #[.pointer (some ⟨g, 0, none⟩)] w fun e w' => e = .returned (.int .i64 ps.length) ∧ w' = w := by
  obtain ⟨x0, x1, x2⟩ := read3 hc
  have hr := hm.len Try.underlying115 3
  clear hc hm x0 x1
  go_enter Try.func52, Try.ntmps52
  go_wp2
  go_ret
  exact ⟨rfl, rfl⟩
set_option maxRecDepth 20000 in
set_option maxHeartbeats 2000000 in
theorem insert0 {w : World} {g bm gc : Nat} {v : Value} (k s : Int) (h : V0 w g bm gc v) : Calls Try.prog 35 #[.pointer (some ⟨g, 0, none⟩), .int .i64 k, .int .u64 s] w fun e w' => e = .returned (.int .i64 0) ∧
    w'.heap[g]? = some (.cells #[.slice none 0 0, v, .map (some bm)] 118 (0, 0)) ∧ (∃ ps, IMap w' bm ps ∧ ps.length = 1) ∧ Chg (fun j => j = bm ∨ j = gc) w w' := by
  obtain ⟨gr, cr, cur, hvv, hvo, hcb, _, _, hcc⟩ := h.own.at_ layP 0 (by simp)
  have hcell : w.cell? ⟨gr, 0, none⟩ = some (.pointer (some ⟨gc, 0, none⟩)) := cell_of hcb 0 (by have := hcc 0 0 (by simp) (by omega); simpa [fp] using this)
  obtain ⟨x0, x1, x2⟩ := read3 h.cell
  rw [hvv] at x1
  simp only [List.length_singleton] at x1
  have hgr : gr ≠ gc ∧ gr ≠ bm ∧ gr ≠ g := by have := h.vv gr hvo; exact ⟨this.2.2, this.2.1, this.1⟩
  have hfi := find0 k h
  have hba := vbag0 s h
  have hla := last_any k (ChW.same (W' := w.drew) h.ch (fun _ _ => rfl)) (by omega) (by omega)
  have HH := Lib.hid (⟨h, hgr, hvv⟩ : _ ∧ _ ∧ _)
  clear h hvo hcb hcc hgr hvv
  go_enter Try.func35, Try.ntmps35
  go_wp2_with fail
  refine hfi.mono ?_
  rintro e w' ⟨rfl, hww⟩
  obtain rfl : w = w' := hww.symm
  go_wp2_with fail
  refine hba.mono ?_
  rintro e w' ⟨rfl, hww⟩
  obtain rfl : w = w' := hww.symm
  clear hfi hba
  go_wp2_with fail
  refine J.wp_region_seq (fun W => W.cell? ⟨g, 1, none⟩ = some (.slice (some ⟨gr, 0, none⟩) 1 cr) ∧ W.cell? ⟨g, 2, none⟩ = some (.map (some bm)) ∧ W.cell? ⟨gr, 0, none⟩ = some (.pointer (some ⟨gc, 0, none⟩))) [(0, 0), (1, 0), (2, 0), (3, 0), (4, 0), (5, 0), (6, 0), (7, 0), (8, 0), (9, 0), (10, 0), (11, 0), (12, 0), (13, 0), (14, 0), (15, 1), (16, 0), (17, 1), (18, 1)] (by kernel_rfl) (by kernel_rfl) (by kernel_rfl) ⟨x1, x2, hcell⟩ ?_
  iterate 15 (apply J.look (by rfl) (by rfl); (focus (intro W hW; obtain ⟨hW1, hW2, hW3⟩ := hW; go_simp; exact HasV.val rfl)); simp only [Act.put, List.setIfInBounds_toArray, List.set_cons_zero, List.set_cons_succ])
  refine J.link (fun u W => u = .int .i64 (0 + 1) ∧ ∃ b, ChPost 95 54 undef gc none [] ([] ++ ⟨b, 0 + 1, .int .i64 k⟩ :: []) (0 + 1) w.drew W) (by rfl) (by rfl) ?_ (fun u W hR => ?_) ?_
  · go_simp
    refine J.HasR.call (hla.mono ?_)
    rintro e W2 ⟨b, rfl, hp⟩
    exact ⟨_, rfl, rfl, b, hp⟩
  · obtain ⟨_, b, mp', _, hC, _⟩ := hR
    obtain ⟨h, hgr, _⟩ := HH.out
    have hn : ∀ j, j ≠ gc → ¬ Mine gc none [] j := fun j hj hm => by
      rcases hm with e | e | ⟨x, hx, _⟩
      · exact hj e
      · cases e
      · cases hx
    exact ⟨chg_cell hC x1 (hn _ (Ne.symm h.gg)), chg_cell hC x2 (hn _ (Ne.symm h.gg)), chg_cell hC hcell (hn _ hgr.1)⟩
  rintro u W1 ⟨rfl, b, mp', hch, hC, _⟩
  simp only [Act.put, List.setIfInBounds_toArray, List.set_cons_zero, List.set_cons_succ]
  obtain ⟨h, hgr, hvv⟩ := HH.out
  have hn : ∀ j, Mine gc none [] j → j = gc := fun j hm => by
    rcases hm with e | e | ⟨x, hx, _⟩
    · exact e
    · cases e
    · cases hx
  have hC1 : Chg (fun j => j = bm ∨ j = gc) w W1 := ((Chg.refl _ w).drew).trans hC (fun j _ hm => .inr (hn j hm))
  have hg1 : W1.heap[g]? = some (.cells #[.slice none 0 0, v, .map (some bm)] 118 (0, 0)) := (hC.block g (heap_lt h.cell) (fun hm => h.gg (hn g hm).symm)).trans h.cell
  have hm1 : IMap W1 bm [] := (IMap_drew h.map).chg hC (fun hm => h.gm (hn bm hm).symm)
  have hm2 : IMap (W1.alloc (.cells #[.int .u64 s, .int .i64 0, .int .i64 (0 + 1)] 124)) bm [] := hm1.chg ((Chg.refl (fun _ => False) W1).alloc _) id
  obtain ⟨w4, hrun, hm4, hg4⟩ := hm2.store Try.underlying115 Try.underlying3 k (.pointer (some ⟨W1.heap.size, 0, none⟩))
  have hfin : w4.heap[g]? = some (.cells #[.slice none 0 0, v, .map (some bm)] 118 (0, 0)) ∧ (∃ ps, IMap w4 bm ps ∧ ps.length = 1) ∧ Chg (fun j => j = bm ∨ j = gc) w w4 := by
    refine ⟨(hg4.block g (heap_lt (heap_alloc_ne hg1)) (fun e => h.gb (Option.some.inj e))).trans (heap_alloc_ne hg1), ⟨_, hm4, by rw [IM.length_upd]; rfl⟩, ?_⟩
    exact (hC1.alloc _).grown hg4 (fun j hj _ => by cases hj; exact .inl rfl)
  have HF := Lib.hid hfin
  have y1 : W1.cell? ⟨g, 1, none⟩ = some (.slice (some ⟨gr, 0, none⟩) 1 cr) := by have := (read3 hg1).2.1; rw [hvv] at this; exact this
  have y2 := (read3 hg1).2.2
  have y3 : W1.cell? ⟨gr, 0, none⟩ = some (.pointer (some ⟨gc, 0, none⟩)) := chg_cell hC hcell (fun hm => hgr.1 (hn gr hm))
  have HG := Lib.hid hg1
  clear hch hC h hgr hvv hn hC1 hg1 hm1 hm2 hm4 hg4 hfin hla
  iterate 1 (apply J.look (by rfl) (by rfl); (focus (intro W hW; obtain ⟨hW1, hW2, hW3⟩ := hW; go_simp; exact HasV.val rfl)); simp only [Act.put, List.setIfInBounds_toArray, List.set_cons_zero, List.set_cons_succ])
  refine J.link (fun u W => u = .pointer (some ⟨W1.heap.size, 0, none⟩) ∧ W = W1.alloc (.cells #[.int .u64 s, .int .i64 0, .int .i64 (0 + 1)] 124)) (by rfl) (by rfl) ?_ (fun u W hR => by rw [hR.2]; exact ⟨chg_cell ((Chg.refl (fun _ => False) W1).alloc _) y1 id, chg_cell ((Chg.refl (fun _ => False) W1).alloc _) y2 id, chg_cell ((Chg.refl (fun _ => False) W1).alloc _) y3 id⟩) ?_
  · go_simp
    exact J.HasR.val ⟨rfl, rfl⟩
  rintro u W ⟨rfl, rfl⟩
  simp only [Act.put, List.setIfInBounds_toArray, List.set_cons_zero, List.set_cons_succ]
  refine J.final (fun u W => u = undef ∧ W = w4) (by rfl) (by rfl) (by kernel_rfl) ?_ ?_
  · simp only [show ((0 : Int) + 1) = 1 from rfl] at hrun
    go_simp
    exact J.HasR.skip ⟨rfl, rfl⟩
  rintro u W ⟨rfl, hW⟩
  obtain rfl : w4 = W := hW.symm
  simp only [Act.put, List.setIfInBounds_toArray, List.set_cons_zero, List.set_cons_succ]
  refine J.fin ?_
  clear hrun x0 x1 x2 hcell y1 y2 y3
  go_wp2
  go_ret
  exact ⟨rfl, HF.out⟩
set_option maxRecDepth 20000 in
set_option maxHeartbeats 2000000 in
theorem awake_any (w : World) : Calls Try.prog 33 #[] w fun e w' => e = .returned (.bool true) ∧ Chg (fun _ => False) w w' := by
  go_enter Try.func33, Try.ntmps33
  go_wp2_with fail
  refine (new0 _).mono ?_
  rintro e w1 ⟨g, bm, gc, v, rfl, h, hg, hbm, hgc, hv, hC⟩
  have hin := insert0 3 5 h
  have HC := Lib.hid (⟨hC, hbm, hgc⟩ : _ ∧ _ ∧ _)
  clear h hg hbm hgc hv hC
  go_wp2_with fail
  refine hin.mono ?_
  rintro e w2 ⟨rfl, hc, ⟨ps, hm, hl⟩, hC2⟩
  have hln := vlen hc hm
  rw [hl] at hln
  have HC2 := Lib.hid (HC.out.1.trans hC2 (fun k hk e => by have h1 := HC.out.2.1; have h2 := HC.out.2.2; rcases e with e | e <;> omega))
  clear hc hm hl hC2 hin
  go_wp2_with fail
  refine hln.mono ?_
  rintro e w3 ⟨rfl, rfl⟩
  clear hln
  go_wp2
  go_ret
  exact ⟨rfl, HC2.out⟩
end Go.Proofs.Ythoagpagnldmeaa.V
