/- Voters: Front, that moves. -/
import Derived.Test.YthoagpagnldmeaaWi
set_option linter.unusedVariables false
set_option linter.unusedSimpArgs false
namespace Go.Proofs.Ythoagpagnldmeaa.V
open Go.RowKit Go.Ps
section
variable {w : World} {g bm : Nat} {tv rv : Value} {T : List Int} {rows : List (List Vo)} {N : Int} {col : Nat → Nat}
def FroPost (g bm : Nat) (tv rv : Value) (T : List Int) (rows : List (List Vo)) (N : Int) (col : Nat → Nat) (p q : Vo) (w w' : World) : Prop :=
  ∃ A B C D col', rows[p.bag]? = some (A ++ p :: B) ∧ A ++ B = C ++ q :: D ∧ VM w' g bm tv rv T (rows.set p.bag (C ++ p :: q :: D)) N col' ∧ Stp col w col' w'
set_option maxRecDepth 20000 in
set_option maxHeartbeats 4000000 in
theorem front_any {k j : Int} {p q : Vo} (h : VM w g bm tv rv T rows N col) (hk : findV rows k = some p) (hj : findV rows j = some q) (hpq : p ≠ q) (hbq : p.bag = q.bag) (hs : ¬ p.stake ≤ q.stake) : Calls Try.prog 46 #[.pointer (some ⟨g, 0, none⟩), .int .i64 k, .int .i64 j] w fun e w' => e = .returned (.int .i64 0) ∧ FroPost g bm tv rv T rows N col p q w w' := by
  have hf := find_yes h hk
  have hf2 := find_yes h hj
  have yb := h.vo (findV_some hk).1
  have zb := h.vo (findV_some hj).1
  obtain ⟨A, B, cs, c, hi, h0, hl, hc, hX, hn0, hnN, hfh⟩ := h.loc hk
  have hq : q ∈ A ++ B := by
    obtain ⟨i, l, h1, h2⟩ := mem_flat (findV_some hj).1
    have h3 := h.bags i l h1 q h2
    rw [← h3, ← hbq, hi] at h1
    obtain rfl := Option.some.inj h1
    rcases List.mem_append.1 h2 with h2 | h2
    · simp [h2]
    · rcases List.mem_cons.1 h2 with rfl | h2
      · exact absurd rfl hpq
      · simp [h2]
  obtain ⟨C, D, hCD⟩ := List.append_of_mem hq
  have hne : p.b ≠ q.b := fun e => by
    obtain ⟨rest, hp1, _⟩ := flat_at hi
    have hn := ((hp1.map Vo.b).nodup_iff).1 h0.nb
    rw [List.map_append, List.map_cons, List.nodup_append, List.nodup_cons] at hn
    obtain ⟨_, ⟨n1, _⟩, n2⟩ := hn
    rcases List.mem_append.1 hq with hq | hq
    · exact n2 _ (List.mem_map.2 ⟨q, hq, rfl⟩) p.b (by simp) e.symm
    · exact n1 (List.mem_map.2 ⟨q, by simp [hq], e.symm⟩)
  have hch0 := h0.ch _ c hc
  have hfq : findH c.X q.h = some q.mem := findH_nd hch0.hs (by
    rw [hX]
    rcases List.mem_append.1 hq with hq | hq
    · exact List.mem_append_left _ (List.mem_map.2 ⟨q, hq, rfl⟩)
    · exact List.mem_append_right _ (List.mem_cons_of_mem _ (List.mem_map.2 ⟨q, hq, rfl⟩)))
  have hch := ChW.same (W' := w.drew.drew) hch0 (fun _ _ => rfl)
  rw [hX] at hch hfh hfq
  have hmv := move_some (C := C.map Vo.mem) (D := D.map Vo.mem) hch hfh hfq (by rw [← List.map_append, hCD, List.map_append, List.map_cons])
  rw [← hX] at hmv
  obtain ⟨gr, cr, hrv, hgr, hcell⟩ := h0.row hc
  obtain ⟨L, hL⟩ : ∃ L, L = cs.length := ⟨_, rfl⟩
  have hmL : p.bag < L := by rw [hL]; exact (List.getElem?_eq_some_iff.1 hc).1
  obtain ⟨x0, x1, x2⟩ := read3 h0.cell
  obtain ⟨ji, hj1, hj2⟩ := info124
  obtain ⟨gc, hgc⟩ : ∃ gc, gc = c.g := ⟨_, rfl⟩
  obtain ⟨pb, hpb⟩ : ∃ pb, pb = p.b := ⟨_, rfl⟩
  obtain ⟨ps, hps⟩ : ∃ ps, ps = p.stake := ⟨_, rfl⟩
  obtain ⟨pg, hpg⟩ : ∃ pg, pg = p.bag := ⟨_, rfl⟩
  obtain ⟨qb, hqb⟩ : ∃ qb, qb = q.b := ⟨_, rfl⟩
  obtain ⟨qs, hqs⟩ : ∃ qs, qs = q.stake := ⟨_, rfl⟩
  obtain ⟨ph, hph⟩ : ∃ ph, ph = p.h := ⟨_, rfl⟩
  obtain ⟨qh, hqh⟩ : ∃ qh, qh = q.h := ⟨_, rfl⟩
  rw [hrv, ← hL] at x1
  rw [← hgc, ← hpg] at hcell
  rw [← hpg] at hmL
  rw [← hpb, ← hps, ← hpg, ← hph] at yb
  rw [← hqb, ← hqs, ← hbq, ← hpg, ← hqh] at zb
  rw [← hgc, ← hph, ← hqh] at hmv
  rw [← hps, ← hqs] at hs
  have YB := Lib.hid yb
  have ZB := Lib.hid zb
  rw [← hpb] at hf hne
  rw [← hqb] at hf2 hne
  have hEQ : ∀ W, W.heap[pb]? = some (.cells #[.int .u64 ps, .int .i64 pg, .int .i64 ph] 124 (0, 0)) → W.heap[qb]? = some (.cells #[.int .u64 qs, .int .i64 pg, .int .i64 qh] 124 (0, 0)) → (binOp .eql 119 (.pointer (some ⟨pb, 0, none⟩)) (.pointer (some ⟨qb, 0, none⟩))).run Try.prog W = .ok (.bool false) W := fun W h1 h2 => run_eql_ptr_other (P := Try.prog) (a := ⟨pb, 0, none⟩) (b := ⟨qb, 0, none⟩) W Try.underlying119 hj1 hj2 (fun e => hne (by have := congrArg Addr.block e; simpa using this)) h1 h2
  have HH := Lib.hid (⟨h, h0, hl, hi, hX, hn0, hnN, hc, hgc, hCD, hpg, hpb, hqb, (findV_some hk).1, (findV_some hj).1, hgr⟩ : _ ∧ _ ∧ _ ∧ _ ∧ _ ∧ _ ∧ _ ∧ _ ∧ _ ∧ _ ∧ _ ∧ _ ∧ _ ∧ _ ∧ _ ∧ _)
  clear h h0 hl hi hX hn0 hnN hc hrv hgr hL hgc hpg hph hpb hps hqb hqs hqh hch hfh x0 x2 hk hj hpq hbq hch0 hfq hq hCD hne hj1 hj2 yb zb
  go_enter Try.func46, Try.ntmps46
  go_wp2_with fail
  refine hf.mono ?_
  rintro e w' ⟨rfl, hww⟩
  obtain rfl : w = w' := hww.symm
  clear hf
  go_wp2_with fail
  refine hf2.mono ?_
  rintro e w' ⟨rfl, hww⟩
  obtain rfl : w = w' := hww.symm
  clear hf2
  go_wp2_with fail
  refine J.wp_region_seq (fun W => W.heap[pb]? = some (.cells #[.int .u64 ps, .int .i64 pg, .int .i64 ph] 124 (0, 0)) ∧ W.heap[qb]? = some (.cells #[.int .u64 qs, .int .i64 pg, .int .i64 qh] 124 (0, 0))) [(0, 0), (1, 0), (2, 0), (3, 0), (4, 0), (5, 0), (6, 0), (7, 0), (8, 0), (9, 0), (10, 0), (11, 0), (12, 0), (13, 0), (14, 0), (15, 0), (16, 0), (17, 0), (18, 0), (19, 0), (20, 0), (21, 0), (22, 0), (23, 0), (24, 0), (25, 0)] (by kernel_rfl) (by kernel_rfl) (by kernel_rfl) ⟨YB.out, ZB.out⟩ ?_
  iterate 26 (apply J.look (by rfl) (by rfl); (focus (intro W hW; obtain ⟨hB1, hB2⟩ := hW; obtain ⟨hW1, hW2, -⟩ := read3 hB1; obtain ⟨hW3, hW4, -⟩ := read3 hB2; have hE := hEQ W hB1 hB2; clear hB1 hB2; go_simp; exact HasV.val rfl)); simp only [Act.put, List.setIfInBounds_toArray, List.set_cons_zero, List.set_cons_succ])
  refine J.fin ?_
  clear hEQ
  have r0 := (read3 YB.out).2.1
  have r1 := (read3 YB.out).2.2
  have r2 := (read3 ZB.out).2.2
  go_wp2_with fail
  refine J.wp_region_seq (fun W => W.cell? ⟨g, 1, none⟩ = some (.slice (some ⟨gr, 0, none⟩) L cr) ∧ W.cell? ⟨gr, pg, none⟩ = some (.pointer (some ⟨gc, 0, none⟩)) ∧ W.cell? ⟨pb, 1, none⟩ = some (.int .i64 pg) ∧ W.cell? ⟨pb, 2, none⟩ = some (.int .i64 ph) ∧ W.cell? ⟨qb, 2, none⟩ = some (.int .i64 qh)) [(0, 0), (1, 0), (2, 0), (3, 0), (4, 0), (5, 0), (6, 0), (7, 0), (8, 0), (9, 0), (10, 0), (11, 0), (12, 0), (13, 0), (14, 0), (15, 0), (16, 0), (17, 0), (18, 1), (19, 0)] (by kernel_rfl) (by kernel_rfl) (by kernel_rfl) ⟨x1, hcell, r0, r1, r2⟩ ?_
  iterate 18 (apply J.look (by rfl) (by rfl); (focus (intro W hW; obtain ⟨hW1, hW2, hW3, hW4, hW5⟩ := hW; go_simp; exact HasV.val rfl)); simp only [Act.put, List.setIfInBounds_toArray, List.set_cons_zero, List.set_cons_succ])
  obtain ⟨h, h0, hl, hi, hX, hn0, hnN, hc, hgc, hCD, hpg, hpb, hqb, hpm, hqm, hgr⟩ := HH.out
  have hcc := h0.cc _ c hc
  have hno : ∀ b, (b = g ∨ b = gr ∨ b = pb ∨ b = qb) → ¬ Mine c.g c.mp c.X b := by
    rintro b hb hm
    have h1 := hcc b hm
    rcases hb with rfl | rfl | rfl | rfl
    · rw [h0.c1] at h1; omega
    · rw [hgr] at h1; omega
    · rw [hpb, h0.c5 p hpm] at h1; omega
    · rw [hqb, h0.c5 q hqm] at h1; omega
  have HNO := Lib.hid hno
  clear h h0 hl hi hX hn0 hnN hc hCD hpg hpb hqb hpm hqm hgr hcc hno
  have HGC := Lib.hid hgc
  clear hgc
  refine J.link (fun u W => u = .int .i64 0 ∧ ChPost 95 54 undef gc c.mp c.X (C.map Vo.mem ++ p.mem :: q.mem :: D.map Vo.mem) c.n w.drew.drew W) (by rfl) (by rfl) ?_ (fun u W hR => ?_) ?_
  · go_simp
    refine J.HasR.call (hmv.mono ?_)
    rintro e W2 ⟨rfl, hp⟩
    exact ⟨_, rfl, rfl, hp⟩
  · obtain ⟨_, mp', _, hC, _⟩ := hR
    rw [HGC.out] at hC
    have hnc := HNO.out
    exact ⟨chg_cell hC x1 (hnc _ (.inl rfl)), chg_cell hC hcell (hnc _ (.inr (.inl rfl))), chg_cell hC r0 (hnc _ (.inr (.inr (.inl rfl)))), chg_cell hC r1 (hnc _ (.inr (.inr (.inl rfl)))), chg_cell hC r2 (hnc _ (.inr (.inr (.inr rfl))))⟩
  rintro u W1 ⟨rfl, hch⟩
  simp only [Act.put, List.setIfInBounds_toArray, List.set_cons_zero, List.set_cons_succ]
  apply J.look (by rfl) (by rfl); (focus (intro W hW; go_simp; exact HasV.val rfl)); simp only [Act.put, List.setIfInBounds_toArray, List.set_cons_zero, List.set_cons_succ]
  refine J.fin ?_
  obtain ⟨h, h0, hl, hi, hX, hn0, hnN, hc, hgc, hCD, hpg, hpb, hqb, hpm, hqm, hgr⟩ := HH.out
  have hdr : Chg (fun _ => False) w w.drew.drew := ((Chg.refl _ w).drew).drew
  rw [hgc] at hch
  obtain ⟨mp', col1, h1, hst1⟩ := (h0.keep hdr (fun _ _ f => f.elim)).chain hc hch
  obtain ⟨rest, hp1, hp2⟩ := flat_at hi
  have hperm : rows.flatten.Perm (rows.set p.bag (C ++ p :: q :: D)).flatten := by
    refine hp1.trans ?_
    refine List.Perm.trans ?_ (hp2 _).symm
    refine List.perm_middle.trans ?_
    rw [List.append_assoc]
    refine List.Perm.trans ?_ List.perm_middle.symm
    refine List.Perm.cons p ?_
    rw [← List.append_assoc, hCD]
    simp
  have hfin : FroPost g bm tv rv T rows N col p q w W1 := by
    refine ⟨A, B, C, D, col1, hi, hCD, ⟨⟨_, h1.perm hperm, ?_⟩, bags_set h.bags (fun r hr => ?_), ((hperm.map _).nodup_iff).1 h.ids, h.ris, h.tl, by rw [List.length_set]; exact h.len⟩, Stp.trans ⟨hdr.mono (fun _ _ f => f.elim), fun _ _ => rfl⟩ hst1⟩
    · exact hl.set (Int.le_refl _) (by simp) ⟨hn0, hnN⟩
    · have hr2 : r = p ∨ r ∈ A ++ B := by
        rw [hCD]
        rcases List.mem_append.1 hr with hr | hr
        · exact .inr (by simp [hr])
        · rcases List.mem_cons.1 hr with rfl | hr
          · exact .inl rfl
          · exact .inr (List.mem_append_right _ hr)
      rcases hr2 with rfl | hr2
      · rfl
      · rcases List.mem_append.1 hr2 with hr2 | hr2 <;> exact h.bags _ _ hi r (by simp [hr2])
  have HF := Lib.hid hfin
  clear h h0 hl hi hX hn0 hnN hc hgc hCD hpg hpb hqb hpm hqm hgr hdr hch h1 hst1 hp1 hp2 hperm hfin x1 hcell r0 r1 r2 hmv
  go_wp2
  go_ret
  exact ⟨rfl, HF.out⟩
end
end Go.Proofs.Ythoagpagnldmeaa.V
