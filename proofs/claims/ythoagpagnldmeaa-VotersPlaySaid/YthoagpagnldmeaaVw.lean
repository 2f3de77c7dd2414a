/- Voters: New. -/
import Derived.Test.YthoagpagnldmeaaVv
set_option linter.unusedVariables false
set_option linter.unusedSimpArgs false
namespace Go.Proofs.Ythoagpagnldmeaa.V
open Go.RowKit Go.Ps
open Classical in
/-- A chain more. -/
theorem VM0.grow {W W' : World} {g bm : Nat} {tv rv : Value} {T : List Int} {cs : List Cst} {col : Nat → Nat} (h : VM0 W g bm tv rv T cs [] col) {gc : Nat} {v : Value} (hC : Chg (fun k => k = g ∨ rv.ownBlock = some k) W W')
    (hcell : W'.heap[g]? = some (.cells #[tv, v, .map (some bm)] 118 (0, 0))) (ho : OwnF W' 23 1 fp v (cs.map (·.g) ++ [gc])) (hch : ChW 95 54 W' gc none [] 0) (hgc : W.heap.size ≤ gc) (hown : ∀ k, v.ownBlock = some k → rv.ownBlock = some k ∨ (W.heap.size ≤ k ∧ k ≠ gc)) :
    ∃ col', VM0 W' g bm tv v T (cs ++ [⟨gc, none, [], 0⟩]) [] col' ∧ ∀ k, k < W.heap.size → col' k = col k := by
  have hgl := heap_lt h.cell
  have hk : ∀ k, k < W.heap.size → k ≠ g → rv.ownBlock ≠ some k → W'.heap[k]? = W.heap[k]? := fun k hk h1 h2 => hC.block k hk (fun f => f.elim h1 h2)
  obtain ⟨col', hcol⟩ : ∃ col' : Nat → Nat, col' = fun k => if k < W.heap.size then col k else if k = gc then 6 + cs.length else if v.ownBlock = some k then 4 else 0 := ⟨_, rfl⟩
  have hold : ∀ k, k < W.heap.size → col' k = col k := fun k hk' => by rw [hcol]; simp [hk']
  have hnc : ∀ k, col k ≠ 1 → col k ≠ 4 → ¬ (k = g ∨ rv.ownBlock = some k) := fun k h1 h4 f => by
    rcases f with f | f
    · exact h1 (by rw [f]; exact h.c1)
    · exact h4 (h.c4 k f)
  refine ⟨col', ⟨hcell, ?_, ?_, ?_, ?_, fun p hp => by simp at hp, by simp, ?_, ?_, ?_, ?_, fun p hp => by simp at hp, ?_, ?_⟩, hold⟩
  · exact h.thr.chg hC (fun k e => hnc k (by rw [h.c3 k e]; decide) (by rw [h.c3 k e]; decide))
  · rw [List.map_append]; exact ho
  · intro i c hi
    by_cases hlt : i < cs.length
    · rw [List.getElem?_append_left hlt] at hi
      exact (h.ch i c hi).keep hC (fun k hm => hnc k (by rw [h.cc i c hi k hm]; omega) (by rw [h.cc i c hi k hm]; omega))
    · have e : i = cs.length := by
        have := (List.getElem?_eq_some_iff.1 hi).1
        simp at this
        omega
      subst e
      simp at hi
      subst hi
      exact hch
  · exact h.map.same (fun k e => by cases e; exact hC.block bm (h.map.lt rfl) (hnc bm (by rw [h.c2]; decide) (by rw [h.c2]; decide)))
  · rw [hold g hgl]; exact h.c1
  · rw [hold bm (h.map.lt rfl)]; exact h.c2
  · exact fun k e => (hold k (h.thr.lt e)).trans (h.c3 k e)
  · intro k e
    rcases hown k e with h1 | ⟨h1, h2⟩
    · exact (hold k (h.rows.lt h1)).trans (h.c4 k h1)
    · rw [hcol]
      have : ¬ k < W.heap.size := by omega
      simp [this, h2, e]
  · intro i c hi k hm
    by_cases hlt : i < cs.length
    · rw [List.getElem?_append_left hlt] at hi
      exact (hold k ((h.ch i c hi).lt hm)).trans (h.cc i c hi k hm)
    · have e : i = cs.length := by
        have := (List.getElem?_eq_some_iff.1 hi).1
        simp at this
        omega
      subst e
      simp at hi
      subst hi
      rcases hm with e | hm | ⟨x, hx, _⟩
      · have e : k = gc := e
        rw [hcol, e]
        have : ¬ gc < W.heap.size := by omega
        simp [this]
      · cases hm
      · simp at hx
  · intro k hk'
    rw [hcol]
    have h1 := hC.size
    have h2 : ¬ k < W.heap.size := by omega
    have h3 : k ≠ gc := fun e => by have := hch.lt (.inl rfl); omega
    have h4 : v.ownBlock ≠ some k := fun e => by have := ho.lt e; omega
    simp [h2, h3, h4]
def NewV (T : List Int) (w : World) (e : Ending) (w' : World) : Prop :=
  ∃ g bm tv rv col, e = .returned (.tuple #[.pointer (some ⟨g, 0, none⟩), .int .i64 0]) ∧ VM w' g bm tv rv T (List.replicate (T.length + 1) []) 0 col ∧ Chg (fun _ => False) w w' ∧ ∀ k, k < w.heap.size → col k = 0
set_option maxRecDepth 20000 in
theorem new_no {w : World} {A : Option Addr} {T : List Int} (c : Nat) (hT : T.length ≤ 1000) (hr : ReadsI w .u64 A T) (hb : ¬ (Ris T ∧ T.length ≤ 100)) :
    Calls Try.prog 34 #[.slice A T.length c] w fun e w' => e = .returned (.tuple #[.pointer none, .int .i64 1]) ∧ w' = w := by
  have hf := formed_any c hT hr
  obtain ⟨n, hn⟩ : ∃ n, n = T.length := ⟨_, rfl⟩
  have HB := Lib.hid hb
  rw [← hn] at hf ⊢
  clear hn hr hb hT
  go_enter Try.func34, Try.ntmps34
  go_wp2_with fail
  refine hf.mono ?_
  rintro e w' ⟨b, rfl, rfl, hb⟩
  have hbf : b = false := by
    cases b with
    | false => rfl
    | true => exact absurd (hb.1 rfl) HB.out
  subst hbf
  clear hf hb
  go_wp2
  go_ret2
  exact ⟨rfl, rfl⟩
set_option maxRecDepth 20000 in
set_option maxHeartbeats 4000000 in
theorem new_yes {w : World} {A : Option Addr} {T : List Int} (c : Nat) (hr : ReadsI w .u64 A T) (hR : Ris T) (hT : T.length ≤ 100) :
    Calls Try.prog 34 #[.slice A T.length c] w (NewV T w) := by
  have hf := formed_any c (by omega) hr
  have hcl := clone_any c (by omega) hr
  obtain ⟨n, hn⟩ : ∃ n, n = T.length := ⟨_, rfl⟩
  have HR := Lib.hid (⟨hn, hR, hT⟩ : _ ∧ _ ∧ _)
  rw [← hn] at hf hcl hT ⊢
  have hmm := @run_makeMap Try.prog
  clear hn hr hR
  go_enter Try.func34, Try.ntmps34
  go_wp2_with fail
  refine hf.mono ?_
  rintro e w' ⟨b, rfl, hww, hb⟩
  obtain rfl : w = w' := hww.symm
  have hbt : b = true := hb.2 HR.out.2
  subst hbt
  clear hf hb
  go_wp2_with fail
  refine hcl.mono ?_
  rintro e w1 ⟨A1, c1, rfl, hN⟩
  obtain ⟨bm, hbm⟩ : ∃ bm, bm = w1.heap.size := ⟨_, rfl⟩
  obtain ⟨V, hV⟩ : ∃ V, V = (w1.alloc (.map #[] 0)).alloc (.cells #[.slice A1 n c1, .slice none 0 0, .map (some w1.heap.size)] 118) := ⟨_, rfl⟩
  have hs0 : (w1.alloc (.map #[] 0)).heap.size = bm + 1 := by rw [hbm]; simp
  have hVC1 : Chg (fun _ => False) w1 V := by rw [hV]; exact ((Chg.refl _ w1).alloc _).alloc _
  have hVs : V.heap.size = bm + 2 := by rw [hV]; simp [hs0]
  have hg : V.heap[bm + 1]? = some (.cells #[.slice A1 n c1, .slice none 0 0, .map (some bm)] 118 (0, 0)) := by rw [hV, ← hs0, ← hbm]; exact heap_alloc_at _ _
  have hm : IMap V bm [] := by rw [hV, hbm]; exact (IMap.made w1).chg ((Chg.refl (fun _ => False) _).alloc _) id
  have hbw : w.heap.size ≤ bm := by rw [hbm]; exact hN.2.1.size
  obtain ⟨tv, htv⟩ : ∃ tv, tv = Value.slice A1 n c1 := ⟨_, rfl⟩
  have hNo := hN.1
  have hNf := hN.2.2
  rw [← htv] at hNo hNf
  have hv0 : ∃ col, VM0 V (bm + 1) bm tv (.slice none 0 0) T [] [] col ∧ ∀ k, k < w.heap.size → col k = 0 := by
    refine ⟨fun k => if k = bm + 1 then 1 else if k = bm then 2 else if w.heap.size ≤ k ∧ k < bm then 3 else 0, ⟨by rw [htv]; exact hg, hNo.chg hVC1 (fun _ _ => id), OwnF.nil _ _ _ _, (fun i c hi => by simp at hi), ⟨[], hm, rfl, by simp, fun _ _ => rfl, by simp⟩, by simp, by simp, by simp, by simp, fun k e => ?_, (fun k e => by cases e), by simp, (fun i c hi => by simp at hi), fun k hk => ?_⟩, fun k hk => ?_⟩
    · have h1 := hNf k e
      have h2 := hNo.lt e
      have h3 : k ≠ bm + 1 := by omega
      have h4 : k ≠ bm := by omega
      simp [h3, h4]
      omega
    · have h3 : k ≠ bm + 1 := by omega
      have h4 : k ≠ bm := by omega
      simp [h3, h4]
      omega
    · have h3 : k ≠ bm + 1 := by omega
      have h4 : k ≠ bm := by omega
      simp [h3, h4]
      omega
  have hVC : Chg (fun _ => False) w V := hN.2.1.trans hVC1 (fun _ _ h => h)
  have HV := Lib.hid hV
  have HB := Lib.hid hbm
  have HT := Lib.hid htv
  have HH := Lib.hid (⟨hv0, hVC⟩ : _ ∧ _)
  clear hN hNo hNf hbm hV hs0 hVC1 hVs hg hm hbw hv0 hVC htv hcl
  go_wp2_with fail
  rw [← HV.out, ← HB.out]
  clear hmm
  go_wp2
  go_loopw [16] (fun i wr => ∃ k : Nat, i = .int .i64 k ∧ k ≤ n + 1 ∧ Hid (∃ cs rv col, VM0 wr (bm + 1) bm tv rv T cs [] col ∧ cs.length = k ∧ (∀ c ∈ cs, c.X = [] ∧ c.n = 0) ∧ Chg (fun _ => False) w wr ∧ ∀ k, k < w.heap.size → col k = 0)) (fun i _ => n + 1 - (intOf i).toNat)
  case atStart => exact ⟨0, rfl, by omega, Lib.hid (by obtain ⟨⟨col, h1, h2⟩, h3⟩ := HH.out; exact ⟨[], _, col, h1, rfl, by simp, h3, h2⟩)⟩
  case round =>
    obtain ⟨k, rfl, hk, HI⟩ := hrel
    by_cases hkn : k < n + 1
    · obtain ⟨cs, rv, col, h0, hcl, hcx, hCw, hcol⟩ := HI.out
      obtain ⟨A0, c0, hrv, hcap, _, hAo, _⟩ := h0.rows.form
      rw [List.length_map, hcl] at hrv
      obtain ⟨x0, q1, x2⟩ := read3 h0.cell
      rw [hrv] at q1
      have hn := new_any wr.drew
      have HI2 := Lib.hid (⟨h0, hcl, hcx, hCw, hcol, hrv⟩ : _ ∧ _ ∧ _ ∧ _ ∧ _ ∧ _)
      clear h0 hcl hcx hCw hcol hrv hcap hAo x0 x2
      go_wp2_with fail
      refine J.wp_region_seq (fun W => W.cell? ⟨bm + 1, 1, none⟩ = some (.slice A0 k c0)) [(0, 0), (1, 0), (2, 0), (3, 0), (4, 0), (5, 1), (6, 1), (7, 1), (8, 0), (9, 0), (10, 1)] (by kernel_rfl) (by kernel_rfl) (by kernel_rfl) q1 ?_
      iterate 5 (apply J.look (by rfl) (by rfl); (focus (intro W hW; go_simp; exact HasV.val rfl)); simp only [Act.put, List.setIfInBounds_toArray, List.set_cons_zero, List.set_cons_succ])
      refine J.link (fun u W => ∃ gc, u = .pointer (some ⟨gc, 0, none⟩) ∧ wr.heap.size ≤ gc ∧ ChW 95 54 W gc none [] 0 ∧ Chg (fun _ => False) wr W) (by rfl) (by rfl) ?_ (fun u W hR => ?_) ?_
      · go_simp
        refine J.HasR.call (hn.mono ?_)
        rintro e W2 ⟨gc, rfl, hgc, hch, hC⟩
        exact ⟨_, rfl, gc, rfl, hgc, hch, ((Chg.refl _ wr).drew).trans hC (fun _ _ => id)⟩
      · obtain ⟨_, _, _, _, hC⟩ := hR
        exact chg_cell hC q1 id
      rintro u W1 ⟨gc, rfl, hgc, hch, hC⟩
      simp only [Act.put, List.setIfInBounds_toArray, List.set_cons_zero, List.set_cons_succ]
      obtain ⟨h0, hcl, hcx, hCw, hcol, hrv⟩ := HI2.out
      have hg1 := chg_heap0 hC h0.cell
      have q1w := cell_of hg1 1 rfl
      rw [hrv] at q1w
      obtain ⟨A', c', w2, hap, ho2, hg2, hat⟩ := (h0.rows.chg hC (fun _ _ => id)).append1 (P := Try.prog) layP 116 Try.underlying116 info23 rfl gc (by simp [hcl]; omega) (by omega)
      rw [List.length_map, hcl] at hap ho2 hat
      have hC2 : Chg (fun k => rv.ownBlock = some k) W1 w2 := (Chg.refl _ W1).grown hg2 (fun k hk _ => hk)
      have hng : rv.ownBlock ≠ some (bm + 1) := fun e => by have h1 := h0.c4 _ e; rw [h0.c1] at h1; cases h1
      have hg3 : w2.heap[bm + 1]? = some (.cells #[tv, rv, .map (some bm)] 118 (0, 0)) := (hC2.block _ (heap_lt hg1) (fun f => hng f)).trans hg1
      have q2 := cell_of hg3 1 rfl
      have f2 := frz hg3
      rw [hrv] at hap q2
      have hcl' := hC.size
      have hch2 : ChW 95 54 w2 gc none [] 0 := hch.keep hC2 (fun j hj f => by
        have := h0.rows.lt f
        rcases hj with h | h | ⟨x, hx, _⟩
        · omega
        · cases h
        · simp at hx)
      have hC3 : Chg (fun j => j = bm + 1) w2 (w2.setCell ⟨bm + 1, 1, none⟩ (.slice A' (k + 1) c')) := chg1 (F := fun j => j = bm + 1) (Chg.refl _ w2) rfl _
      have hC13 : Chg (fun j => j = bm + 1 ∨ rv.ownBlock = some j) wr (w2.setCell ⟨bm + 1, 1, none⟩ (.slice A' (k + 1) c')) := ((hC.mono (fun _ _ f => f.elim)).trans hC2 (fun _ _ f => .inr f)).trans hC3 (fun _ _ f => .inl f)
      have hownn : ∀ j, Value.ownBlock (.slice A' (k + 1) c') = some j → rv.ownBlock = some j ∨ (wr.heap.size ≤ j ∧ j ≠ gc) := fun j hj => by
        rcases hat j hj with h1 | h1
        · exact .inl h1
        · exact .inr ⟨by omega, fun e => by have := hch.lt (.inl rfl); omega⟩
      obtain ⟨col', h3, hcol3⟩ := h0.grow (W' := w2.setCell ⟨bm + 1, 1, none⟩ (.slice A' (k + 1) c')) (gc := gc) (v := .slice A' (k + 1) c') hC13 (by rw [heap_setCell hg3]; rfl)
        (ho2.chg hC3 (fun j hj e => by
          rcases hownn j hj with h1 | h1
          · exact hng (by rw [← e]; exact h1)
          · have := heap_lt h0.cell; omega))
        (hch2.keep hC3 (fun j hj e => by
          have := heap_lt h0.cell
          rcases hj with h | h | ⟨x, hx, _⟩
          · omega
          · cases h
          · simp at hx)) hgc hownn
      have hfin : ∃ cs rv col, VM0 (w2.setCell ⟨bm + 1, 1, none⟩ (.slice A' (k + 1) c')) (bm + 1) bm tv rv T cs [] col ∧ cs.length = k + 1 ∧ (∀ c ∈ cs, c.X = [] ∧ c.n = 0) ∧ Chg (fun _ => False) w (w2.setCell ⟨bm + 1, 1, none⟩ (.slice A' (k + 1) c')) ∧ ∀ k, k < w.heap.size → col k = 0 := by
        refine ⟨_, _, col', h3, by simp [hcl], ?_, hCw.trans hC13 (fun j hj f => ?_), fun j hj => ?_⟩
        · intro d hd
          rcases List.mem_append.1 hd with hd | hd
          · exact hcx d hd
          · rw [List.mem_singleton.1 hd]; exact ⟨rfl, rfl⟩
        · have h1 := hcol j hj
          rcases f with f | f
          · rw [f, h0.c1] at h1; cases h1
          · rw [h0.c4 j f] at h1; cases h1
        · rw [hcol3 j (Nat.lt_of_lt_of_le hj hCw.size)]; exact hcol j hj
      have HF := Lib.hid hfin
      clear hgc hch hC h0 hcl hcx hCw hcol hrv hg1 ho2 hg2 hat hC2 hng hg3 hcl' hch2 hC3 hC13 hownn h3 hcol3 hfin
      refine J.link (fun u W => u = .slice (some ⟨W1.heap.size, 0, none⟩) 1 1 ∧ W = W1.alloc (.cells #[.pointer (some ⟨gc, 0, none⟩)] 23)) (by rfl) (by rfl) ?_ (fun u W hR => by rw [hR.2]; exact chg_cell ((Chg.refl (fun _ => False) W1).alloc _) q1w id) ?_
      · go_simp
        exact J.HasR.val ⟨rfl, rfl⟩
      rintro u W ⟨rfl, rfl⟩
      simp only [Act.put, List.setIfInBounds_toArray, List.set_cons_zero, List.set_cons_succ]
      refine J.link (fun u W => u = .slice A' (k + 1) c' ∧ W = w2) (by rfl) (by rfl) ?_ (fun u W hR => by rw [hR.2]; exact q2) ?_
      · exact hasR_append (.tmp 22) (.tmp 24) 116 rfl _ _ _ _ rfl rfl hap ⟨rfl, rfl⟩
      rintro u W ⟨rfl, hW⟩
      obtain rfl : w2 = W := hW.symm
      simp only [Act.put, List.setIfInBounds_toArray, List.set_cons_zero, List.set_cons_succ]
      iterate 2 (apply J.look (by rfl) (by rfl); (focus (intro W hW; go_simp; exact HasV.val rfl)); simp only [Act.put, List.setIfInBounds_toArray, List.set_cons_zero, List.set_cons_succ])
      refine J.final (fun u W => u = undef ∧ W = w2.setCell ⟨bm + 1, 1, none⟩ (.slice A' (k + 1) c')) (by rfl) (by rfl) (by kernel_rfl) ?_ ?_
      · go_simp
        exact J.HasR.skip ⟨rfl, rfl⟩
      rintro u W ⟨rfl, rfl⟩
      simp only [Act.put, List.setIfInBounds_toArray, List.set_cons_zero, List.set_cons_succ]
      refine J.fin ?_
      clear q1 q1w q2 f2 hap hn
      go_wp2
      go_roundw
      case rel => exact ⟨k + 1, by go_num, by omega, Lib.hid HF.out⟩
      case measure => simp [intOf]; omega
    · obtain rfl : k = n + 1 := by omega
      go_wp2
      go_ret2
      obtain ⟨cs, rv, col, h0, hcl, hcx, hCw, hcol⟩ := HI.out
      refine ⟨bm + 1, bm, tv, rv, col, rfl, ⟨⟨cs, ?_, ?_, ?_⟩, ?_, ?_, HR.out.2.1, HR.out.2.2, by rw [List.length_replicate]⟩, hCw, hcol⟩
      · have : (List.replicate (T.length + 1) ([] : List Vo)).flatten = [] := by simp
        rw [this]; exact h0
      · rw [← HR.out.1, ← hcl]
        apply List.ext_getElem
        · simp
        · intro i h1 h2
          simp
          exact (hcx _ (List.getElem_mem _)).1
      · intro c hc
        have := (hcx c hc).2
        omega
      · intro i l hi p hp
        rw [List.getElem?_replicate] at hi
        split at hi
        · cases hi; simp at hp
        · cases hi
      · simp
end Go.Proofs.Ythoagpagnldmeaa.V
