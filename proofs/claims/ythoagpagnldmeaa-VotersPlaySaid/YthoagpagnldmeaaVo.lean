/- Voters: New of no thresholds, Insert, Len: enough for awake. -/
import Derived.Test.YthoagpagnldmeaaVn
set_option linter.unusedVariables false
set_option linter.unusedSimpArgs false
namespace Go.Proofs.Ythoagpagnldmeaa.V
open Go.RowKit Go.Ps
def fp (g : Nat) : List Value := [.pointer (some ⟨g, 0, none⟩)]
theorem layP : Lay fp 1 := ⟨fun x => rfl, fun x u hu => by simp [fp] at hu; subst hu; rfl, by omega⟩
theorem info23 : (Try.prog.info? 23).map (fun i => (i.zero, i.size, i.bytes)) = some (some (.pointer none), 1, 8) := by kernel_rfl
theorem hasR_append {R : Value → World → Prop} {o : Oper} {a : Act} {w : World} (s x : Operand) (t : TypeId) (ho : o.op = .call { callee := .builtin .append, args := #[s, x], argTypes := #[t, t] }) (va vb v' : Value) (w' : World) (hs : a.eval s = va) (hx : a.eval x = vb)
    (hr : (Builtin.append_ #[t, t] o.type #[va, vb]).run Try.prog w = .ok v' w') (h : R v' w') : J.HasR Try.prog R ((execOp a.eval o).run Try.prog w) := by
  unfold execOp
  simp only [ho, resolve, invoke, builtin, Sem.run_bind, Sem.run_pure, Result.andThen_ok, List.map_toArray, List.map_cons, List.map_nil, hs, hx, hr]
  exact J.HasR.val h
theorem read3 {w : World} {g : Nat} {c0 c1 c2 : Value} {t : TypeId} (h : w.heap[g]? = some (.cells #[c0, c1, c2] t (0, 0))) : w.cell? ⟨g, 0, none⟩ = some c0 ∧ w.cell? ⟨g, 1, none⟩ = some c1 ∧ w.cell? ⟨g, 2, none⟩ = some c2 := ⟨cell_of h 0 rfl, cell_of h 1 rfl, cell_of h 2 rfl⟩
/-- Voters of one bag, and nobody in it. -/
structure V0 (W : World) (g bm gc : Nat) (v : Value) : Prop where
  cell : W.heap[g]? = some (.cells #[.slice none 0 0, v, .map (some bm)] 118 (0, 0))
  own : OwnF W 23 1 fp v [gc]
  map : IMap W bm []
  ch : ChW 95 54 W gc none [] 0
  gb : g ≠ bm
  gg : gc ≠ g
  gm : gc ≠ bm
  vv : ∀ k, v.ownBlock = some k → k ≠ g ∧ k ≠ bm ∧ k ≠ gc
set_option maxRecDepth 20000 in
set_option maxHeartbeats 2000000 in
theorem new0 (w : World) : Calls Try.prog 34 #[.slice none 0 0] w fun e w' => ∃ g bm gc v, e = .returned (.tuple #[.pointer (some ⟨g, 0, none⟩), .int .i64 0]) ∧ V0 w' g bm gc v ∧ w.heap.size ≤ g ∧ w.heap.size ≤ bm ∧ w.heap.size ≤ gc ∧ (∀ k, v.ownBlock = some k → w.heap.size ≤ k) ∧ Chg (fun _ => False) w w' := by
  obtain ⟨bm, hbm⟩ : ∃ bm, bm = w.heap.size := ⟨_, rfl⟩
  obtain ⟨V, hV⟩ : ∃ V, V = (w.alloc (.map #[] 0)).alloc (.cells #[.slice none 0 0, .slice none 0 0, .map (some w.heap.size)] 118) := ⟨_, rfl⟩
  have hs0 : (w.alloc (.map #[] 0)).heap.size = bm + 1 := by rw [hbm]; simp
  have hVC : Chg (fun _ => False) w V := by rw [hV]; exact ((Chg.refl _ w).alloc _).alloc _
  have hg : V.heap[bm + 1]? = some (.cells #[.slice none 0 0, .slice none 0 0, .map (some bm)] 118 (0, 0)) := by rw [hV, ← hs0, ← hbm]; exact heap_alloc_at _ _
  have hm : IMap V bm [] := by rw [hV, hbm]; exact (IMap.made w).chg ((Chg.refl (fun _ => False) _).alloc _) id
  have HH := Lib.hid (⟨hVC, hg, hm, hbm⟩ : _ ∧ _ ∧ _ ∧ _)
  have HV := Lib.hid hV
  have q1 := (read3 hg).2.1
  have hmm := @run_makeMap Try.prog
  clear hVC hg hm hs0 hV hbm
  go_enter Try.func34, Try.ntmps34
  go_wp2_with fail
  refine (formed0 _).mono ?_
  rintro e w' ⟨rfl, hww⟩
  obtain rfl : w = w' := hww.symm
  go_wp2_with fail
  refine (clone0 _).mono ?_
  rintro e w' ⟨rfl, hww⟩
  obtain rfl : w = w' := hww.symm
  go_wp2_with fail
  rw [← HV.out, ← HH.out.2.2.2]
  clear hmm
  go_wp2
  go_loopw [16] (fun i wr => (i = .int .i64 0 ∧ wr = V) ∨ (i = .int .i64 1 ∧ ∃ gc v, V0 wr (bm + 1) bm gc v ∧ V.heap.size ≤ gc ∧ (∀ k, v.ownBlock = some k → V.heap.size ≤ k) ∧ Chg (fun k => k = bm + 1) V wr)) (fun i _ => 1 - (intOf i).toNat)
  case atStart => exact .inl ⟨rfl, rfl⟩
  case round =>
    rcases hrel with ⟨rfl, rfl⟩ | ⟨rfl, gc, v, hv, h1, h2, h3⟩
    · have hn := new_any wr.drew
      go_wp2_with fail
      refine J.wp_region_seq (fun W => W.cell? ⟨bm + 1, 1, none⟩ = some (.slice none 0 0)) [(0, 0), (1, 0), (2, 0), (3, 0), (4, 0), (5, 1), (6, 1), (7, 1), (8, 0), (9, 0), (10, 1)] (by kernel_rfl) (by kernel_rfl) (by kernel_rfl) q1 ?_
      iterate 5 (apply J.look (by rfl) (by rfl); (focus (intro W hW; go_simp; exact HasV.val rfl)); simp only [Act.put, List.setIfInBounds_toArray, List.set_cons_zero, List.set_cons_succ])
      refine J.link (fun u W => ∃ gc, u = .pointer (some ⟨gc, 0, none⟩) ∧ wr.heap.size ≤ gc ∧ ChW 95 54 W gc none [] 0 ∧ Chg (fun _ => False) wr W) (by rfl) (by rfl) ?_ (fun u W hR => ?_) ?_
      · go_simp
        refine J.HasR.call (hn.mono ?_)
        rintro e W2 ⟨gc, rfl, hgc, hch, hC⟩
        exact ⟨_, rfl, gc, rfl, hgc, hch, ((Chg.refl _ wr).drew).trans hC (fun _ _ => id)⟩
      · obtain ⟨_, _, _, _, hC⟩ := hR
        exact chg_cell hC q1 id
      rintro u W1 ⟨gc, rfl, hgc, hch, hC⟩
      simp only [Act.put, List.setIfInBounds_toArray, List.set_cons_zero, List.set_cons_succ]
      have hg1 := chg_heap0 hC HH.out.2.1
      obtain ⟨A', c', w2, hap, ho2, hg2, hat⟩ := (OwnF.nil W1 23 1 fp).append1 (P := Try.prog) layP 116 Try.underlying116 info23 rfl gc (by simp) (by omega)
      simp only [List.length_nil, Nat.zero_add, List.nil_append] at hap ho2 hat
      have hC2 : Chg (fun _ => False) W1 w2 := (Chg.refl _ W1).grown hg2 (fun k hk _ => by cases hk)
      have hfk : ∀ k, Value.ownBlock (.slice A' 1 c') = some k → W1.heap.size ≤ k := fun k hk => by
        rcases hat k hk with e | e
        · cases e
        · exact e
      have hg3 := chg_heap0 hC2 hg1
      have q2 := cell_of hg3 1 rfl
      have f2 := frz hg3
      refine J.link (fun u W => u = .slice (some ⟨W1.heap.size, 0, none⟩) 1 1 ∧ W = W1.alloc (.cells #[.pointer (some ⟨gc, 0, none⟩)] 23)) (by rfl) (by rfl) ?_ (fun u W hR => by rw [hR.2]; exact cell_of (heap_alloc_ne hg1) 1 rfl) ?_
      · go_simp
        exact J.HasR.val ⟨rfl, rfl⟩
      rintro u W ⟨rfl, rfl⟩
      simp only [Act.put, List.setIfInBounds_toArray, List.set_cons_zero, List.set_cons_succ]
      refine J.link (fun u W => u = .slice A' 1 c' ∧ W = w2) (by rfl) (by rfl) ?_ (fun u W hR => by rw [hR.2]; exact q2) ?_
      · exact hasR_append (.tmp 22) (.tmp 24) 116 rfl _ _ _ _ rfl rfl hap ⟨rfl, rfl⟩
      rintro u W ⟨rfl, hW⟩
      obtain rfl : w2 = W := hW.symm
      simp only [Act.put, List.setIfInBounds_toArray, List.set_cons_zero, List.set_cons_succ]
      iterate 2 (apply J.look (by rfl) (by rfl); (focus (intro W hW; go_simp; exact HasV.val rfl)); simp only [Act.put, List.setIfInBounds_toArray, List.set_cons_zero, List.set_cons_succ])
      refine J.final (fun u W => u = undef ∧ W = w2.setCell ⟨bm + 1, 1, none⟩ (.slice A' 1 c')) (by rfl) (by rfl) (by kernel_rfl) ?_ ?_
      · go_simp
        exact J.HasR.skip ⟨rfl, rfl⟩
      rintro u W ⟨rfl, rfl⟩
      simp only [Act.put, List.setIfInBounds_toArray, List.set_cons_zero, List.set_cons_succ]
      refine J.fin ?_
      have hC3 : Chg (fun k => k = bm + 1) w2 (w2.setCell ⟨bm + 1, 1, none⟩ (.slice A' 1 c')) := chg1 (F := fun k => k = bm + 1) (Chg.refl _ w2) rfl _
      have hgb := heap_lt HH.out.2.1
      have hbl := HH.out.2.2.1.lt
      have hgs := hC.size
      have HD := Lib.hid (show ∃ gc v, V0 (w2.setCell ⟨bm + 1, 1, none⟩ (.slice A' 1 c')) (bm + 1) bm gc v ∧ wr.heap.size ≤ gc ∧ (∀ k, v.ownBlock = some k → wr.heap.size ≤ k) ∧ Chg (fun k => k = bm + 1) wr (w2.setCell ⟨bm + 1, 1, none⟩ (.slice A' 1 c')) from
        ⟨gc, .slice A' 1 c', ⟨by rw [heap_setCell hg3]; rfl, ho2.chg hC3 (fun k hk e => by have := hfk k hk; omega), ((HH.out.2.2.1.chg hC id).chg hC2 id).chg hC3 (by omega), (hch.keep hC2 (fun _ _ => id)).keep hC3 (fun k hk e => by
          rcases hk with h | h | ⟨x, hx, _⟩
          · omega
          · cases h
          · cases hx), by omega, by omega, by omega, fun k hk => by have := hfk k hk; have := hch.lt (.inl rfl); exact ⟨by omega, by omega, by omega⟩⟩, hgc, fun k hk => Nat.le_trans hgs (hfk k hk), ((hC.trans hC2 (fun _ _ => id)).mono (G := fun k => k = bm + 1) (fun _ _ h => h.elim)).trans hC3 (fun _ _ h => h)⟩)
      clear hgc hch hC hg1 hap ho2 hg2 hat hC2 hfk hg3 q1 q2 f2 hC3 hgb hbl hgs hn
      go_wp2
      go_roundw
      case rel => exact .inr ⟨rfl, HD.out⟩
      case measure => simp [intOf]
    · have HD := Lib.hid (show ∃ g bm' gc v, (Value.pointer (some ⟨bm + 1, 0, none⟩)) = .pointer (some ⟨g, 0, none⟩) ∧ V0 wr g bm' gc v ∧ w.heap.size ≤ g ∧ w.heap.size ≤ bm' ∧ w.heap.size ≤ gc ∧ (∀ k, v.ownBlock = some k → w.heap.size ≤ k) ∧ Chg (fun _ => False) w wr from by
        obtain ⟨hVC, hg, hm, hbm⟩ := HH.out
        exact ⟨bm + 1, bm, gc, v, rfl, hv, by omega, by omega, Nat.le_trans hVC.size h1, fun k hk => Nat.le_trans hVC.size (h2 k hk), hVC.trans h3 (fun k hk e => by omega)⟩)
      clear hv h1 h2 h3
      go_wp2
      go_ret2
      obtain ⟨g, bm', gc, v, e, hr⟩ := HD.out
      exact ⟨g, bm', gc, v, by rw [← e]; rfl, hr⟩
end Go.Proofs.Ythoagpagnldmeaa.V
