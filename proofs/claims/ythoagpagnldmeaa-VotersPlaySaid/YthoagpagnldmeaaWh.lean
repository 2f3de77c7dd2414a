/- Voters: Rebag, Front. -/
import Derived.Test.YthoagpagnldmeaaWg
set_option linter.unusedVariables false
set_option linter.unusedSimpArgs false
namespace Go.Proofs.Ythoagpagnldmeaa.V
open Go.RowKit Go.Ps
section
variable {w : World} {g bm : Nat} {tv rv : Value} {T : List Int} {rows : List (List Vo)} {N : Int} {col : Nat → Nat}
set_option maxRecDepth 20000 in
theorem rebag_no {k : Int} (h : VM w g bm tv rv T rows N col) (hk : findV rows k = none) : Calls Try.prog 44 #[.pointer (some ⟨g, 0, none⟩), .int .i64 k] w fun e w' => e = .returned (.int .i64 5) ∧ w' = w := by
  have hf := find_no h hk
  clear h hk
  go_enter Try.func44, Try.ntmps44
  go_wp2_with fail
  refine hf.mono ?_
  rintro e w' ⟨rfl, rfl⟩
  clear hf
  go_wp2
  go_ret
  exact ⟨rfl, rfl⟩
set_option maxRecDepth 20000 in
theorem rebag_same {k : Int} {p : Vo} (h : VM w g bm tv rv T rows N col) (hk : findV rows k = some p) (hb : bagOf T p.stake = p.bag) : Calls Try.prog 44 #[.pointer (some ⟨g, 0, none⟩), .int .i64 k] w fun e w' => e = .returned (.int .i64 10) ∧ w' = w := by
  have hf := find_yes h hk
  have hbg := vbag_any p.stake h
  obtain ⟨y0, y1, y2⟩ := read3 (h.vo (findV_some hk).1)
  rw [hb] at hbg
  obtain ⟨b, hbb⟩ : ∃ b, b = p.bag := ⟨_, rfl⟩
  obtain ⟨st, hst⟩ : ∃ st, st = p.stake := ⟨_, rfl⟩
  rw [← hbb, ← hst] at hbg
  rw [← hbb] at y1
  rw [← hst] at y0
  clear h hk hb y2 hbb hst
  go_enter Try.func44, Try.ntmps44
  go_wp2_with fail
  refine hf.mono ?_
  rintro e w' ⟨rfl, hww⟩
  obtain rfl : w = w' := hww.symm
  clear hf
  go_wp2_with fail
  refine hbg.mono ?_
  rintro e w' ⟨rfl, hww⟩
  obtain rfl : w = w' := hww.symm
  clear hbg
  go_wp2
  go_ret
  exact ⟨rfl, rfl⟩
def RebPost (g bm : Nat) (tv rv : Value) (T : List Int) (rows : List (List Vo)) (N : Int) (col : Nat → Nat) (p : Vo) (n : Nat) (w w' : World) : Prop :=
  ∃ A B l h mb col', rows[p.bag]? = some (A ++ p :: B) ∧ (rows.set p.bag (A ++ B))[n]? = some l ∧ VM w' g bm tv rv T ((rows.set p.bag (A ++ B)).set n (l ++ [{ p with bag := n, h := h, mb := mb }])) (N + 1) col' ∧ Stp col w col' w'
set_option maxRecDepth 20000 in
set_option maxHeartbeats 4000000 in
theorem rebag_any {k : Int} {p : Vo} (h : VM w g bm tv rv T rows N col) (hk : findV rows k = some p) (hb : bagOf T p.stake ≠ p.bag) (hN : N < 100000) : Calls Try.prog 44 #[.pointer (some ⟨g, 0, none⟩), .int .i64 k] w fun e w' => e = .returned (.int .i64 0) ∧ RebPost g bm tv rv T rows N col p (bagOf T p.stake) w w' := by
  have hf := find_yes h hk
  have hvb := vbag_any p.stake h
  obtain ⟨A, B, cs, c, hi, h0, hl, hc, hX, hn0, hnN, hfh⟩ := h.loc hk
  obtain ⟨hpm, hid⟩ := findV_some hk
  obtain ⟨n, hn⟩ : ∃ n, n = bagOf T p.stake := ⟨_, rfl⟩
  rw [← hn] at hb hvb ⊢
  have hnr : n < rows.length := by have := bagOf_le T p.stake; rw [h.len]; omega
  -- the other chain
  obtain ⟨l2, hi2⟩ : ∃ l2, rows[n]? = some l2 := ⟨_, List.getElem?_eq_getElem hnr⟩
  obtain ⟨c2, hc2, hX2, hm0, hmN⟩ := hl.get hi2
  obtain ⟨gr, cr, hrv, hgr, hcell⟩ := h0.row hc
  obtain ⟨gr', cr', hrv', -, hcell2⟩ := h0.row hc2
  rw [hrv] at hrv'
  simp only [Value.slice.injEq, Option.some.injEq, Addr.mk.injEq, and_true] at hrv'
  obtain ⟨rfl, -, rfl⟩ := hrv'
  obtain ⟨L, hL⟩ : ∃ L, L = cs.length := ⟨_, rfl⟩
  have hmL : p.bag < L := by rw [hL]; exact (List.getElem?_eq_some_iff.1 hc).1
  have hnL : n < L := by rw [hL]; exact (List.getElem?_eq_some_iff.1 hc2).1
  obtain ⟨x0, x1, x2⟩ := read3 h0.cell
  obtain ⟨y0, y1, y2⟩ := read3 (h.vo hpm)
  have hch := ChW.same (W' := w.drew) (h0.ch _ c hc) (fun _ _ => rfl)
  rw [hX] at hch hfh
  have hrm := remove_some p.id hch hfh rfl
  rw [← hX] at hrm
  obtain ⟨gc, hgc⟩ : ∃ gc, gc = c.g := ⟨_, rfl⟩
  obtain ⟨gc2, hgc2⟩ : ∃ gc, gc = c2.g := ⟨_, rfl⟩
  obtain ⟨bg, hbg⟩ : ∃ bg, bg = p.bag := ⟨_, rfl⟩
  obtain ⟨ph, hph⟩ : ∃ ph, ph = p.h := ⟨_, rfl⟩
  obtain ⟨pb, hpb⟩ : ∃ pb, pb = p.b := ⟨_, rfl⟩
  obtain ⟨st, hst⟩ : ∃ st, st = p.stake := ⟨_, rfl⟩
  rw [hrv, ← hL] at x1
  rw [← hgc, ← hbg] at hcell
  rw [← hgc2] at hcell2
  rw [← hbg] at y1 hmL hb
  rw [← hph] at y2
  rw [← hst] at y0 hvb
  rw [← hgc, ← hph] at hrm
  rw [← hpb] at y0 y1 y2 hf
  have HH := Lib.hid (⟨h, h0, hl, hi, hX, hn0, hnN, hc, hrv, hgr, hL, hgc, hbg, hph, hpb, hid, hk, hi2, hc2, hX2, hm0, hmN, hgc2, hpm, hN⟩ : _ ∧ _ ∧ _ ∧ _ ∧ _ ∧ _ ∧ _ ∧ _ ∧ _ ∧ _ ∧ _ ∧ _ ∧ _ ∧ _ ∧ _ ∧ _ ∧ _ ∧ _ ∧ _ ∧ _ ∧ _ ∧ _ ∧ _ ∧ _ ∧ _)
  have hnbi : ¬ (n : Int) = (bg : Int) := by omega
  have HB := Lib.hid hb
  clear h h0 hl hi hX hn0 hnN hc hrv hgr hL hgc hbg hph hpb hch hfh x0 hid hk hi2 hc2 hX2 hm0 hmN hgc2 hpm hst hn hnr hb hN
  go_enter Try.func44, Try.ntmps44
  go_wp2_with fail
  refine hf.mono ?_
  rintro e w' ⟨rfl, hww⟩
  obtain rfl : w = w' := hww.symm
  clear hf
  go_wp2_with fail
  refine hvb.mono ?_
  rintro e w' ⟨rfl, hww⟩
  obtain rfl : w = w' := hww.symm
  clear hvb
  go_wp2_with fail
  refine J.wp_region_seq (fun W => W.cell? ⟨g, 1, none⟩ = some (.slice (some ⟨gr, 0, none⟩) L cr) ∧ W.cell? ⟨gr, bg, none⟩ = some (.pointer (some ⟨gc, 0, none⟩)) ∧ W.cell? ⟨pb, 1, none⟩ = some (.int .i64 bg) ∧ W.cell? ⟨pb, 2, none⟩ = some (.int .i64 ph)) [(0, 0), (1, 0), (2, 0), (3, 0), (4, 0), (5, 0), (6, 0), (7, 0), (8, 0), (9, 0), (10, 0), (11, 0), (12, 0), (13, 0), (14, 1)] (by kernel_rfl) (by kernel_rfl) (by kernel_rfl) ⟨x1, hcell, y1, y2⟩ ?_
  iterate 14 (apply J.look (by rfl) (by rfl); (focus (intro W hW; obtain ⟨hW1, hW2, hW3, hW4⟩ := hW; go_simp; exact HasV.val rfl)); simp only [Act.put, List.setIfInBounds_toArray, List.set_cons_zero, List.set_cons_succ])
  refine J.final (fun u W => ChPost 95 54 undef gc c.mp c.X (A.map Vo.mem ++ B.map Vo.mem) c.n w.drew W) (by rfl) (by rfl) (by kernel_rfl) ?_ ?_
  · go_simp
    refine J.HasR.call (hrm.mono ?_)
    rintro e W2 ⟨rfl, hp⟩
    exact ⟨_, rfl, hp⟩
  rintro u W1 hch
  simp only [Act.put, List.setIfInBounds_toArray, List.set_cons_zero, List.set_cons_succ]
  refine J.fin ?_
  obtain ⟨h, h0, hl, hi, hX, hn0, hnN, hc, hrv, hgr, hL, hgc, hbg, hph, hpb, hid, hk, hi2, hc2, hX2, hm0, hmN, hgc2, hpm, hN⟩ := HH.out
  have hne : p.bag ≠ n := by rw [← hbg]; exact fun e => HB.out e.symm
  have hdr : Chg (fun _ => False) w w.drew := (Chg.refl _ w).drew
  rw [hgc] at hch
  obtain ⟨mp', col1, h1, hst1⟩ := (h0.keep hdr (fun _ _ f => f.elim)).chain hc hch
  have hc2' : (cs.set p.bag ⟨c.g, mp', A.map Vo.mem ++ B.map Vo.mem, c.n⟩)[n]? = some c2 := by rw [List.getElem?_set_ne hne]; exact hc2
  have hla := last_any k (h1.ch n c2 hc2') hm0 (by omega)
  rw [← hgc2] at hla
  obtain ⟨z0, z1, z2⟩ := read3 h1.cell
  obtain ⟨gr2, cr2, e1, e2, z3⟩ := h1.row hc2'
  rw [hrv] at e1
  simp only [Value.slice.injEq, Option.some.injEq, Addr.mk.injEq, and_true] at e1
  obtain ⟨e1, -, -⟩ := e1
  rw [← e1, ← hgc2] at z3
  rw [hrv, ← hL] at z1
  have HG := Lib.hid (⟨h1, hst1, hc2', hne⟩ : _ ∧ _ ∧ _ ∧ _)
  clear h h0 hl hi hX hn0 hnN hc hrv hgr hL hgc hbg hph hpb hid hk hi2 hc2 hX2 hm0 hmN hgc2 hpm hch hdr h1 hst1 hc2' e1 e2 z0 z2 hne hrm x1 x2 hcell hcell2 y0 y1 y2 hN
  go_wp2_with fail
  refine hla.mono ?_
  rintro e W3 ⟨bq, rfl, hp⟩
  obtain ⟨h, h0, hl, hi, hX, hn0, hnN, hc, hrv, hgr, hL, hgc, hbg, hph, hpb, hid, hk, hi2, hc2, hX2, hm0, hmN, hgc2, hpm, hN⟩ := HH.out
  obtain ⟨h1, hst1, hc2', hne⟩ := HG.out
  rw [hgc2] at hp
  obtain ⟨mp2, col2, h3, hst3⟩ := h1.chain hc2' hp
  obtain ⟨rest, hp1, hp2⟩ := flat_at hi
  have hblk := h3.vo p hpm
  obtain ⟨q, hq⟩ : ∃ q : Vo, q = { p with bag := n, h := c2.n + 1, mb := bq } := ⟨_, rfl⟩
  have hb4 : ((W3.setCell ⟨p.b, 1, none⟩ (.int .i64 n)).setCell ⟨p.b, 2, none⟩ (.int .i64 (c2.n + 1))).heap[p.b]? = some (.cells #[.int .u64 q.stake, .int .i64 (q.bag : Nat), .int .i64 q.h] 124 (0, 0)) := by
    have e1 : (W3.setCell ⟨p.b, 1, none⟩ (.int .i64 n)).heap[p.b]? = some (.cells #[.int .u64 p.stake, .int .i64 n, .int .i64 p.h] 124 (0, 0)) := by rw [heap_setCell hblk]; rfl
    rw [heap_setCell e1, hq]
    rfl
  obtain ⟨h4, hst4⟩ := (h3.perm hp1).set (q := q) (by rw [hq]) (by rw [hq]) (V := (W3.setCell ⟨p.b, 1, none⟩ (.int .i64 n)).setCell ⟨p.b, 2, none⟩ (.int .i64 (c2.n + 1))) (chg1 (F := fun k => k = p.b) (chg1 (F := fun k => k = p.b) (Chg.refl _ W3) rfl _) rfl _) hb4
  have hi2' : (rows.set p.bag (A ++ B))[n]? = some l2 := by rw [List.getElem?_set_ne hne]; exact hi2
  have hfin : RebPost g bm tv rv T rows N col p n w ((W3.setCell ⟨p.b, 1, none⟩ (.int .i64 n)).setCell ⟨p.b, 2, none⟩ (.int .i64 (c2.n + 1))) := by
    obtain ⟨rest2, hr1, hr2⟩ := flat_set hi2'
    have hperm : (A ++ q :: (B ++ rest)).Perm ((rows.set p.bag (A ++ B)).set n (l2 ++ [q])).flatten := by
      refine List.perm_middle.trans ?_
      refine List.Perm.trans ?_ (hr2 _).symm
      rw [List.append_assoc, List.singleton_append]
      refine List.Perm.trans ?_ List.perm_middle.symm
      refine List.Perm.cons q ?_
      refine List.Perm.trans ?_ hr1
      refine List.Perm.trans ?_ (hp2 _).symm
      simp
    refine ⟨A, B, l2, c2.n + 1, bq, col2, hi, hi2', ?_, ((Stp.trans ⟨((Chg.refl (fun _ => False) w).drew).mono (fun _ _ f => f.elim), fun _ _ => rfl⟩ hst1).trans hst3).trans hst4⟩
    rw [← hq]
    refine ⟨⟨_, h4.perm hperm, ?_⟩, bags_set (bags_set h.bags (fun r hr => ?_)) (fun r hr => ?_), ?_, h.ris, h.tl, by rw [List.length_set, List.length_set]; exact h.len⟩
    · refine Lk.set (hl.set (c := ⟨c.g, mp', A.map Vo.mem ++ B.map Vo.mem, c.n⟩) (l := A ++ B) (M := N) (Int.le_refl _) (by simp) ⟨hn0, hnN⟩) (M := N + 1) (by omega) ?_ ⟨by simp; omega, by simp; omega⟩
      rw [List.map_append, ← hX2]
      simp [Vo.mem, hq, hid]
    · rcases List.mem_append.1 hr with hr | hr <;> exact h.bags _ _ hi r (by simp [hr])
    · rcases List.mem_append.1 hr with hr | hr
      · exact h.bags _ _ hi2 r hr
      · rw [List.mem_singleton.1 hr, hq]
    · refine ((hperm.map _).nodup_iff).1 ?_
      have := ((hp1.map Vo.id).nodup_iff).1 h.ids
      rw [hq]
      simpa using this
  have HF := Lib.hid hfin
  rw [← hpb] at hblk HF
  obtain ⟨v0, v1, v2⟩ := read3 hblk
  have vf := frz hblk
  have hblk2 : (W3.setCell ⟨pb, 1, none⟩ (.int .i64 n)).heap[pb]? = some (.cells #[.int .u64 p.stake, .int .i64 n, .int .i64 p.h] 124 (0, 0)) := by rw [heap_setCell hblk]; rfl
  have vf2 := frz hblk2
  obtain ⟨t0, t1, t2⟩ := read3 hblk2
  clear h h0 hl hi hX hn0 hnN hc hrv hgr hL hgc hbg hph hpb hid hk hi2 hc2 hX2 hm0 hmN hgc2 hpm h1 hst1 hc2' hne hp h3 hst3 hp1 hp2 hblk hq hb4 h4 hst4 hi2' hfin hblk2 hla z1 z3 hN
  go_wp2
  go_ret
  exact ⟨rfl, HF.out⟩
end
end Go.Proofs.Ythoagpagnldmeaa.V
