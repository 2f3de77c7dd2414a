/- The document's ledger: Slash. -/
import Derived.Test.YtpndkelbchjkiaaLr4
import Derived.Test.YtpndkelbchjkiaaLv
set_option linter.unusedVariables false
set_option linter.unusedSimpArgs false
namespace Go.Proofs.Ytpndkelbchjkiaa
open Go.RowKit Go.Ps
theorem rslash_step {w wr : World} {g b m k : Nat} {V : Value} {L : List Row} {s : S} {left B n1 : Int} (h : Stp 79 82 94 S.hd2 w wr g V L (sK s m B n1 (k + 1))) (hm : m < s.acc.length) (hL : L.length = s.acc.length) (hk : k < (s.acc.getD m a0).ch.length) (hleft : left = (sl ((s.acc.getD m a0).ch.drop (k + 1)) n1).2) (hb : V.ownBlock = some b) :
    ∃ b2 cc, wr.cell? ⟨b, m * 4 + 3, none⟩ = some (.slice (some ⟨b2, 0, none⟩) (s.acc.getD m a0).ch.length cc) ∧ wr.cell? ⟨b2, k * 2, none⟩ = some (.int .u64 ((s.acc.getD m a0).ch.getD k d0).1) ∧ wr.frozen? ⟨b2, k * 2, none⟩ = false ∧
      ∀ W, Chg (fun _ => False) wr W → Stp 79 82 94 S.hd2 w (W.setCell ⟨b2, k * 2, none⟩ (.int .u64 (((s.acc.getD m a0).ch.getD k d0).1 - min left ((s.acc.getD m a0).ch.getD k d0).1))) g V L (sK s m B n1 k) := by
  obtain ⟨L', h1, h2, h3, h4⟩ := id h
  have hmL : m < L'.length := by omega
  obtain ⟨b', c, A, cc, e1, e2, e3, hcells⟩ := h1.cells hmL
  obtain rfl : b = b' := by have := hb.symm.trans e3; simpa using this
  obtain ⟨_, _, _, _, c3⟩ := hcells wr (Chg.refl _ wr)
  have hgd := sK_get s m B n1 (k + 1) hm
  have hrow := h1.at_.chs m hmL
  have hxx : (L'.getD m r0).1 = (sK s m B n1 (k + 1)).acc.getD m a0 := by rw [← fst_getD, h1.acc]
  rw [hgd] at hxx e2 c3
  rw [hxx] at hrow
  simp only [slS_len _ n1 (k + 1) hk] at e2 c3
  have hk2 : k < (slS (s.acc.getD m a0).ch n1 (k + 1)).length := by rw [slS_len _ _ _ hk]; exact hk
  obtain ⟨b2, c2, q1, q2, q3, q4, q5, q6, q7⟩ := ownC_cells hrow hk2
  rw [slS_get _ _ _ hk] at q4
  simp only [slS_len _ n1 (k + 1) hk] at q1
  rw [e2] at q1
  simp only [Value.slice.injEq, true_and] at q1
  obtain ⟨rfl, rfl⟩ := q1
  refine ⟨b2, cc, c3, q4, q6, fun W hC => ?_⟩
  have hst := Stp.chunk hds2 (h1.keep hC) hmL q2 (k := k) (by rw [hgd]; exact hk2) (((s.acc.getD m a0).ch.getD k d0).1 - min left ((s.acc.getD m a0).ch.getD k d0).1)
  rw [hgd] at hst
  simp only [slS_get _ _ _ hk] at hst
  rw [show { sK s m B n1 (k + 1) with acc := (sK s m B n1 (k + 1)).acc.set m { free := (s.acc.getD m a0).free, bonded := B, dep := (s.acc.getD m a0).dep, ch := (slS (s.acc.getD m a0).ch n1 (k + 1)).set k (((s.acc.getD m a0).ch.getD k d0).1 - min left ((s.acc.getD m a0).ch.getD k d0).1, ((s.acc.getD m a0).ch.getD k d0).2) } } = sK s m B n1 k by
    rw [hleft, slS_step _ _ _ hk]
    unfold sK
    simp only [List.set_set]] at hst
  exact Stp.glue h2 (h3.trans hC (fun _ _ h => h.elim)) (fun j hj => (h4 j hj).imp id id) hst
theorem rcell3 {w wr : World} {g b m k : Nat} {V : Value} {L : List Row} {s : S} {B n1 : Int} (h : Stp 79 82 94 S.hd2 w wr g V L (sK s m B n1 k)) (hm : m < s.acc.length) (hL : L.length = s.acc.length) (hk : k ≤ (s.acc.getD m a0).ch.length) (hb : V.ownBlock = some b) :
    ∃ A cc, wr.cell? ⟨b, m * 4 + 3, none⟩ = some (.slice A (s.acc.getD m a0).ch.length cc) := by
  obtain ⟨L', h1, h2, h3, h4⟩ := id h
  obtain ⟨b', c, A, cc, e1, e2, e3, hcells⟩ := h1.cells (i := m) (by omega)
  obtain rfl : b = b' := by have := hb.symm.trans e3; simpa using this
  obtain ⟨_, _, _, _, c3⟩ := hcells wr (Chg.refl _ wr)
  rw [sK_get s m B n1 k hm] at c3
  simp only [slS_len _ n1 k hk] at c3
  exact ⟨A, cc, c3⟩
/-- The chunks of an account, copied behind an empty row. -/
theorem copyC {w : World} {v : Value} {l : List (Int × Int)} (h : OwnF w 94 2 fch v l) (hl : l.length ≤ 1000) : ∃ A0 c0, v = .slice A0 l.length c0 ∧ ∃ A' c' w2, (Builtin.append_ #[80, 80] 80 #[.slice (some ⟨w.heap.size, 0, none⟩) 0 0, .slice A0 l.length c0]).run Try.prog (w.alloc (.cells #[] 94)) = .ok (.slice A' l.length c') w2 ∧ RowC w w2 (.slice A' l.length c') l := by
  obtain ⟨A, c, rfl, hcap, hr, hA, hn⟩ := h.form
  refine ⟨A, c, rfl, ?_⟩
  have hC : Chg (fun _ => False) w (w.alloc (.cells #[] 94)) := (Chg.refl _ w).alloc _
  have h0 : OwnF (w.alloc (.cells #[] 94)) 94 2 fch (.slice (some ⟨w.heap.size, 0, none⟩) 0 0) [] := ⟨rfl, .inr ⟨w.heap.size, 0, #[], rfl, Nat.zero_le _, heap_alloc_at w _, Nat.le_refl _, Nat.zero_le _, rfl, rfl⟩⟩
  obtain ⟨A', c', w2, hrun, ho, hg, hat⟩ := h0.appendF (P := Try.prog) layC 80 Try.underlying80 info94 rfl (m := l) c (hr.chg layC hC (fun _ _ => id)) (by simp; omega) (by omega)
  simp only [List.length_nil, Nat.zero_add, List.nil_append] at hrun ho hat
  have hown : Value.ownBlock (.slice (some ⟨w.heap.size, 0, none⟩) 0 0) = some w.heap.size := rfl
  rw [hown] at hg hat
  refine ⟨A', c', w2, hrun, ho, hC.trans ((Chg.refl (fun k => k = w.heap.size) _).grown hg (fun k hk _ => by simpa using hk.symm)) (fun k hk h => by omega), fun k hk => ?_⟩
  rcases hat with hat | hat
  · rw [hat] at hk; simp at hk; omega
  · rw [hat] at hk; simp at hk; omega
set_option maxRecDepth 20000 in
set_option maxHeartbeats 8000000 in
theorem rslash_any {w : World} {g : Nat} {V : Value} {L : List Row} {s : S} (h : LS 79 82 94 S.hd2 w g V L s) (hU : s.U) (hSC : s.C) (id n : Int) (hn : U64 n) :
    Calls Try.prog 52 #[.pointer (some ⟨g, 0, none⟩), .int .i64 id, .int .u64 n] w fun e w' => e = .returned (.tuple #[.int .u64 (s.slash id n).2.1, .int .i64 (s.slash id n).2.2]) ∧ Stp 79 82 94 S.hd2 w w' g V L (s.slash id n).1 := by
  unfold S.slash
  by_cases h0 : s.bad id
  · simp only [if_pos h0]
    have hf := there_no h h0
    have HL := Lib.hid h
    clear h h0 hU hSC hn
    go_enter Try.func52, Try.ntmps52
    go_wp2_with fail
    refine hf.mono ?_
    rintro e w1 ⟨rfl, rfl⟩
    go_wp2
    go_ret2
    exact ⟨rfl, Stp.refl HL.out (Chg.refl _ _)⟩
  · simp only [if_neg h0]
    have hf := there_yes h h0
    obtain ⟨m, rfl⟩ : ∃ m : Nat, id = (m : Int) := ⟨id.toNat, by unfold S.bad at h0; omega⟩
    have hm : m < s.acc.length := by unfold S.bad at h0; omega
    simp only [Int.toNat_natCast]
    have hL0 := h.len
    have hmL : m < L.length := by rw [h.len]; exact hm
    obtain ⟨hch, hcu⟩ := hSC m hm
    have hb1 : U64 (s.acc.getD m a0).bonded := hU (.acc m 1) ⟨hm, by omega⟩
    obtain ⟨b, c, A, cc, e1, e2, e3, hcells⟩ := h.cells hmL
    obtain ⟨y0, y1, y2, y3, y4⟩ := hcells w (Chg.refl _ _)
    have hput := Stp.put hds2 h (P := .acc m 1) ⟨hm, by omega⟩ (fun _ _ => e3)
    obtain ⟨_, f2⟩ := h.get hds2 (P := .acc m 1) ⟨hm, by omega⟩ (fun _ _ => e3)
    simp only [adr] at hput f2
    have ham : s.acc.getD m a0 = s.acc.getD m a0 := rfl
    obtain ⟨a, ha⟩ : ∃ a, a = s.acc.getD m a0 := ⟨_, rfl⟩
    rw [← ha] at hch hcu hb1 e2 y1 y2 y3 y4 ⊢
    obtain ⟨B0, hB0⟩ : ∃ B, B = a.bonded := ⟨_, rfl⟩
    rw [← hB0] at hb1 y2
    obtain ⟨mb, hmb⟩ : ∃ x, min n B0 = x := ⟨_, rfl⟩
    obtain ⟨n1, hn1⟩ : ∃ n1, n - mb = n1 := ⟨_, rfl⟩
    obtain ⟨B1, hB1⟩ : ∃ B1, B0 - mb = B1 := ⟨_, rfl⟩
    obtain ⟨ff, hff⟩ : ∃ f, f = (a.cut n).2 := ⟨_, rfl⟩
    have hffn : (sl a.ch n1).2 = ff := by rw [hff, ← hn1, ← hmb, hB0]; rfl
    have hn1u : 0 ≤ n1 := by omega
    have hwB : IntKind.u64.wrap (B0 - mb) = B1 := by rw [wrap64u]; unfold U64 at hn hb1; omega
    obtain ⟨D, hD⟩ : ∃ D, n - ff = D := ⟨_, rfl⟩
    obtain ⟨z, hz⟩ : ∃ z, IntKind.u64.wrap (s.tre + D) = z := ⟨_, rfl⟩
    rw [← hff, hD, ← wrap64u, hz]
    obtain ⟨cn, hcn⟩ : ∃ n, n = a.ch.length := ⟨_, rfl⟩
    obtain ⟨ln, hln⟩ : ∃ n, n = L.length := ⟨_, rfl⟩
    rw [← hcn] at hch y4 e2
    rw [← hln] at y0
    have hmln : m < ln := by omega
    have hst0 := hput B1
    rw [show s.put B1 (.acc m 1) = sK s m B1 n1 cn by
      show { s with acc := s.acc.set m (Ac.put (s.acc.getD m a0) B1 1) } = _
      unfold sK
      rw [← ha, show slS a.ch n1 cn = a.ch by rw [hcn]; simp [slS, sl]]
      rfl] at hst0
    obtain ⟨W1, hW1⟩ : ∃ W, w.setCell ⟨b, m * 4 + 1, none⟩ (.int .u64 B1) = W := ⟨_, rfl⟩
    rw [hW1] at hst0
    have y4' : W1.cell? ⟨b, m * 4 + 3, none⟩ = some (.slice A cn cc) := by rw [← hW1, World.cell?_setCell_other _ _ _ _ (fun e => by simp at e)]; exact y4
    obtain ⟨L1, hL1, hlen1, hC1, hM1⟩ := hst0
    have hmL1 : m < L1.length := by omega
    obtain ⟨b', c1, A1, cc1, r1, r2, r3, hcells1⟩ := hL1.cells hmL1
    obtain rfl : b = b' := by have := e3.symm.trans r3; simpa using this
    obtain ⟨_, _, _, _, u4⟩ := hcells1 W1 (Chg.refl _ _)
    have hsk := sK_get s m B1 n1 cn hm
    rw [← ha] at hsk
    rw [show slS a.ch n1 cn = a.ch by rw [hcn]; simp [slS, sl]] at hsk
    rw [hsk] at u4 r2
    have hrow1 := hL1.at_.chs m hmL1
    rw [show (L1.getD m r0).1 = (sK s m B1 n1 cn).acc.getD m a0 by rw [← fst_getD, hL1.acc], hsk, r2] at hrow1
    simp only at hrow1 u4
    rw [y4'] at u4
    simp only [Option.some.injEq, Value.slice.injEq] at u4
    obtain ⟨rfl, -, rfl⟩ := u4
    obtain ⟨A0, c0, ev, A2, c2, w2, hrun, hR2⟩ := copyC hrow1 (by omega)
    simp only [Value.slice.injEq, true_and] at ev
    obtain ⟨rfl, rfl⟩ := ev
    rw [← hcn] at hrun hR2
    have hx2 := hL1.at_.rows.chg hR2.2.1 (fun _ _ => id)
    obtain ⟨b', _, cur3, q1, q2, q3, _, _, q6⟩ := hx2.at_ layA r0 (by omega)
    obtain rfl : b = b' := by have := e3.symm.trans q2; simpa using this
    obtain ⟨uu, huu⟩ : ∃ u, u = (L1.getD m r0).v := ⟨_, rfl⟩
    have u3 : w2.cell? ⟨b, m * 4 + 3, none⟩ = some uu := cell_of q3 _ ((q6 m 3 hmL1 (by omega)).trans (by rw [huu]; rfl))
    have f3 := frozen_of q3 (m * 4 + 3)
    have hS3 := Stp.setCh hds2 hL1 hmL1 e3 (hR2.2.1.mono (fun _ _ h => h.elim)) hR2.1 (fun k hk => .inr (hR2.2.2 k hk))
    rw [hsk] at hS3
    have hsf : { sK s m B1 n1 cn with acc := (sK s m B1 n1 cn).acc.set m { free := a.free, bonded := B1, dep := a.dep, ch := a.ch } } = sK s m B1 n1 cn := by
      unfold sK
      simp only [List.set_set]
      rw [← ha, show slS a.ch n1 cn = a.ch by rw [hcn]; simp [slS, sl]]
    rw [hsf] at hS3
    have hS3 := Stp.glue hlen1 hC1 hM1 hS3
    obtain ⟨W3, hW3⟩ : ∃ W, w2.setCell ⟨b, m * 4 + 3, none⟩ (.slice A2 cn c2) = W := ⟨_, rfl⟩
    rw [hW3] at hS3
    have hc43 : W3.cell? ⟨b, m * 4 + 3, none⟩ = some (.slice A2 cn c2) := by rw [← hW3]; exact World.cell?_setCell_same _ _ _ u3
    have HS := Lib.hid (⟨h, hm, hL0, e3, hcu, hb1, hn, ha, hB0, hn1, hB1, hffn, hn1u, hcn, hmb⟩ : _ ∧ _ ∧ _ ∧ _ ∧ _ ∧ _ ∧ _ ∧ _ ∧ _ ∧ _ ∧ _ ∧ _ ∧ _ ∧ _ ∧ _)
    have HZ := Lib.hid (⟨hz, hff, hD⟩ : _ ∧ _ ∧ _)
    have H3 := Lib.hid hS3
    have HW1 := Lib.hid hW1
    have HW3 := Lib.hid hW3
    clear h h0 hm hL0 hmL hcu hb1 e1 e2 hput ham ha hB0 hn1 hB1 hff hffn hn1u hD hz hcn hln hL1 hlen1 hC1 hM1 hmL1 r1 r2 r3 hcells1 hsk hrow1 hR2 hx2 q1 q2 q3 q6 huu hS3 hsf hW1 hW3 hcells hU hSC hn e3
    go_enter Try.func52, Try.ntmps52
    go_wp2_with fail
    refine hf.mono ?_
    rintro e w1 ⟨rfl, rfl⟩
    clear hf
    go_upto_region 6 with (fail)
    rw [HW1.out]
    have y5 : (W1.alloc (.cells #[] 94)).cell? ⟨b, m * 4 + 3, none⟩ = some (.slice A cn cc) := chg_cell ((Chg.refl (fun _ => False) W1).alloc _) y4' id
    go_wp2_with (at_builtin; refine wpList_append_run rfl _ _ 80 rfl _ _ _ _ rfl rfl hrun ?_)
    go_loopw [9, 10, 11] (fun nn i xx wr => ∃ k : Nat, k ≤ cn ∧ i = .int .i64 ((k : Int) - 1) ∧ nn = .int .u64 (n - (sl (a.ch.drop k) n1).2) ∧ Hid (Stp 79 82 94 S.hd2 w wr g V L (sK s m B1 n1 k))) (fun _ i _ _ => (intOf i + 1).toNat)
    case atStart =>
      obtain ⟨h, hm, hL0, e3, hcu, hb1, hn, ha, hB0, hn1, hB1, hffn, hn1u, hcn, hmb⟩ := HS.out
      refine ⟨cn, Nat.le_refl _, by go_num, ?_, Lib.hid ?_⟩
      · rw [hcn, List.drop_length]
        show _ = Value.int .u64 (n - n1)
        rw [show n - n1 = mb by omega]
      · rw [HW3.out]
        exact H3.out
    case round =>
      obtain ⟨k, hk, rfl, rfl, HK⟩ := hrel
      obtain ⟨h, hm, hL0, e3, hcu, hb1, hn, ha, hB0, hn1, hB1, hffn, hn1u, hcn, hmb⟩ := HS.out
      cases k with
      | zero =>
        obtain ⟨L5, hL5, hlen5, hC5, hM5⟩ := HK.out
        have hmL5 : m < L5.length := by omega
        obtain ⟨b', c5, A5, cc5, r1, r2, r3, hcells5⟩ := hL5.cells hmL5
        obtain rfl : b = b' := by have := e3.symm.trans r3; simpa using this
        have hgd := sK_get s m B1 n1 0 hm
        have hxx : (L5.getD m r0).1 = (sK s m B1 n1 0).acc.getD m a0 := by rw [← fst_getD, hL5.acc]
        have hrow := hL5.at_.chs m hmL5
        rw [hxx] at hrow
        rw [hgd, ← ha] at r2 hcells5 hrow
        simp only [slS, List.take_zero, List.drop_zero, List.nil_append] at r2 hcells5 hrow
        obtain ⟨E, hE⟩ : ∃ E, E = (sl a.ch n1).1 := ⟨_, rfl⟩
        have hEl : cn = E.length := by rw [hE, sl_len]; exact hcn
        have hE0 := sl_mem a.ch n1 hn1u (fun x hx => (hcu x hx).1)
        rw [← hE] at r2 hcells5 hrow hE0
        rw [← hEl] at r2 hcells5
        rw [r2] at hrow
        obtain ⟨_, _, _, _, v5⟩ := hcells5 wr (Chg.refl _ _)
        obtain ⟨hz, hff, hD⟩ := HZ.out
        rw [List.drop_zero, hffn, hD]
        have HE := Lib.hid (⟨hrow, hcells5, hEl, hE0, hE⟩ : _ ∧ _ ∧ _ ∧ _ ∧ _)
        have H5 := Lib.hid (⟨hL5, hlen5, hC5, hM5, r2, hgd⟩ : _ ∧ _ ∧ _ ∧ _ ∧ _ ∧ _)
        clear h hm hL0 e3 hcu hb1 hn ha hB0 hn1 hB1 hffn hn1u hcn hmb hL5 hlen5 hC5 hM5 hmL5 r1 r2 r3 hcells5 hgd hxx hrow hE hEl hE0 hz hff hD hk
        go_wp2
        go_loopw [12, 95] (fun lf i wq => ∃ (t : Nat) (A6 : Option Addr) (n6 c6 : Nat), t ≤ cn ∧ i = .int .i64 t ∧ lf = .slice A6 n6 c6 ∧ Hid (RowC wr wq (.slice A6 n6 c6) ((E.take t).filter (fun x => !decide (x.1 = 0))))) (fun _ i _ => cn - (intOf i).toNat)
        case atStart => exact ⟨0, none, 0, 0, by omega, rfl, rfl, Lib.hid ⟨OwnF.nil _ _ _ _, Chg.refl _ _, fun j hj => by cases hj⟩⟩
        case round =>
          obtain ⟨t, A6, n6, c6, ht, rfl, rfl, HR⟩ := hrel
          obtain ⟨hrow, hcells5, hEl, hE0, hE⟩ := HE.out
          obtain ⟨_, _, _, _, v6⟩ := hcells5 _ HR.out.2.1
          by_cases ht2 : t < cn
          · obtain ⟨bx, cx, e6, _, _, v0, v1, _⟩ := ownC_cells (hrow.chg HR.out.2.1 (fun _ _ => id)) (k := t) (by omega)
            rw [← hEl] at e6
            simp only [Value.slice.injEq] at e6
            obtain ⟨rfl, -, rfl⟩ := e6
            have hfs : (E.take (t + 1)).filter (fun x => !decide (x.1 = 0)) = (E.take t).filter (fun x => !decide (x.1 = 0)) ++ [E.getD t d0].filter (fun x => !decide (x.1 = 0)) := by rw [take_snocC E t (by omega), List.filter_append]
            have hpu := HR.out.push (E.getD t d0) (by have := List.length_filter_le (fun x : Int × Int => !decide (x.1 = 0)) (E.take t); rw [List.length_take] at this; omega)
            have hx0 := hE0 _ (getD_mem (l := E) (k := t) (by omega))
            obtain ⟨x, hx⟩ : ∃ x, x = E.getD t d0 := ⟨_, rfl⟩
            rw [← hx] at v0 v1 hfs hpu hx0
            obtain ⟨F0, hF0⟩ : ∃ F, F = (E.take t).filter (fun x => !decide (x.1 = 0)) := ⟨_, rfl⟩
            rw [← hF0] at hpu hfs HR
            have hn6 : n6 = F0.length := by obtain ⟨A', c', e, _⟩ := HR.out.1.form; simp only [Value.slice.injEq] at e; exact e.2.1
            clear hrow hcells5 hEl hE0 hE hx hF0
            by_cases he : 0 < x.1
            · rw [List.filter_cons_of_pos (by simp; omega), List.filter_nil] at hfs
              obtain ⟨A', c', w3, hrun, hR2⟩ := hpu
              have HW := Lib.hid (⟨hfs, hR2⟩ : _ ∧ _)
              rw [← hn6] at hrun HW
              clear hfs hR2 hn6 hx0
              go_wp2_with (at_builtin; refine wpList_append_run rfl _ _ 80 rfl _ _ _ _ rfl rfl hrun ?_)
              go_roundw
              case rel => exact ⟨t + 1, _, _, _, by omega, by go_num, rfl, by rw [HW.out.1]; exact Lib.hid HW.out.2⟩
              case measure => simp [intOf]; omega
            · rw [List.filter_cons_of_neg (by simp; omega), List.filter_nil, List.append_nil] at hfs
              have HW := Lib.hid hfs
              clear hfs hpu hn6
              go_wp2
              go_roundw
              case rel => exact ⟨t + 1, _, _, _, by omega, by go_num, rfl, by rw [HW.out]; exact HR⟩
              case measure => simp [intOf]; omega
          · have et : t = cn := by omega
            subst et
            rw [show E.take t = E by rw [hEl]; exact List.take_length] at HR
            obtain ⟨h, hm, hL0, e3, hcu, hb1, hn, ha, hB0, hn1, hB1, hffn, hn1u, hcn, hmb⟩ := HS.out
            obtain ⟨hz, hff, hD⟩ := HZ.out
            obtain ⟨hL5, hlen5, hC5, hM5, r2, hgd⟩ := H5.out
            have hmL5 : m < L5.length := by omega
            have hS6 := Stp.setCh hds2 hL5 hmL5 e3 (HR.out.2.1.mono (fun _ _ h => h.elim)) HR.out.1 (fun k hk => .inr (HR.out.2.2 k hk))
            rw [hgd, ← ha] at hS6
            have hSF : { sK s m B1 n1 0 with acc := (sK s m B1 n1 0).acc.set m { free := a.free, bonded := B1, dep := a.dep, ch := E.filter fun x => !decide (x.1 = 0) } } = { s with acc := s.acc.set m (a.cut n).1 } := by
              unfold sK Ac.cut
              simp only [List.set_set]
              rw [← hB0, hmb, hn1, hB1, hE]
            rw [hSF] at hS6
            have hS6 := Stp.glue hlen5 hC5 hM5 hS6
            have hfin : Hid (Stp 79 82 94 S.hd2 w ((wr.setCell ⟨b, m * 4 + 3, none⟩ (.slice A6 n6 c6)).setCell ⟨g, 1, none⟩ (.int .u64 z)) g V L { s with acc := s.acc.set m (a.cut n).1, tre := z }) := Lib.hid (hS6.then (fun L' hL' hlen => by
              exact Stp.put hds2 hL' (P := .tre) trivial (fun _ _ => e3) z))
            have hx7 := hL5.at_.rows.chg HR.out.2.1 (fun _ _ => id)
            obtain ⟨b', _, cur7, q1, q2, q3, _, _, _⟩ := hx7.at_ layA r0 (by omega)
            obtain rfl : b = b' := by have := e3.symm.trans q2; simpa using this
            have f7 := frozen_of q3 (m * 4 + 3)
            have hg7 := chg_heap0 HR.out.2.1 hL5.at_.cell
            have t7 : wr.cell? ⟨g, 1, none⟩ = some (.int .u64 s.tre) := cell_of hg7 1 rfl
            have ft7 := frozen_of hg7 1
            have hbg : b ≠ g := fun e => hL5.at_.v0 (e ▸ e3)
            have t8 : (wr.setCell ⟨b, m * 4 + 3, none⟩ (.slice A6 n6 c6)).cell? ⟨g, 1, none⟩ = some (.int .u64 s.tre) := by
              rw [World.cell?_setCell_other _ _ _ _ (fun e => hbg (congrArg Addr.block e))]
              exact t7
            obtain ⟨tr, htr⟩ : ∃ t, t = s.tre := ⟨_, rfl⟩
            rw [← htr] at t7 t8 hz
            have hbg2 : ¬ b = g := hbg
            clear h hm hL0 e3 hcu hb1 hn ha hB0 hn1 hB1 hffn hn1u hcn hmb hL5 hlen5 hC5 hM5 hmL5 r2 hgd hrow hcells5 hEl hE0 hE hff hD hS6 hSF hx7 q1 q2 q3 hg7 htr HE H5 HK
            go_wp2
            go_ret2
            exact ⟨rfl, hfin.out⟩
      | succ k =>
        have hkl : k < a.ch.length := by omega
        have hkc : k < cn := by omega
        obtain ⟨b2, cc3, v3, x0, f0, hnext⟩ := rslash_step HK.out hm hL0 (by rw [← ha]; exact hkl) (by rw [← ha]) e3
        rw [← ha] at v3 x0 hnext
        rw [← hcn] at v3
        have hx : U64 (a.ch.getD k d0).1 := hcu _ (getD_mem hkl)
        have hlf := sl_le (a.ch.drop (k + 1)) n1 hn1u (fun x hx => (hcu x (List.mem_of_mem_drop hx)).1)
        have hsl := slS_left a.ch n1 k hkl
        obtain ⟨x, hxe⟩ : ∃ x, x = (a.ch.getD k d0).1 := ⟨_, rfl⟩
        obtain ⟨l1, hl1⟩ : ∃ x, x = (sl (a.ch.drop (k + 1)) n1).2 := ⟨_, rfl⟩
        obtain ⟨l2, hl2⟩ : ∃ x, x = (sl (a.ch.drop k) n1).2 := ⟨_, rfl⟩
        rw [← hxe] at x0 hx hnext hsl
        rw [← hl1] at hlf hnext hsl ⊢
        rw [← hl2] at hsl
        obtain ⟨mn, hmn⟩ : ∃ y, min l1 x = y := ⟨_, rfl⟩
        obtain ⟨x', hx'⟩ : ∃ y, x - mn = y := ⟨_, rfl⟩
        obtain ⟨n0, hn0⟩ : ∃ y, n - l1 = y := ⟨_, rfl⟩
        obtain ⟨n2, hn2⟩ : ∃ y, n0 + mn = y := ⟨_, rfl⟩
        rw [hmn, hx'] at hnext
        rw [hmn] at hsl
        rw [hn0]
        unfold U64 at hn hx hb1
        have hq1 : IntKind.u64.wrap (n - n0) = l1 := by rw [wrap64u]; omega
        have hq2 : IntKind.u64.wrap (x - mn) = x' := by rw [wrap64u]; omega
        have hq3 : IntKind.u64.wrap (n0 + mn) = n2 := by rw [wrap64u]; omega
        have hfin : Hid (Stp 79 82 94 S.hd2 w (wr.drew.setCell ⟨b2, k * 2, none⟩ (.int .u64 x')) g V L (sK s m B1 n1 k) ∧ n2 = n - l2) := Lib.hid ⟨hnext _ ((Chg.refl _ _).drew), by omega⟩
        obtain ⟨wd, hwd⟩ : ∃ W : World, wr.drew = W := ⟨_, rfl⟩
        rw [hwd] at hfin
        have HWD := Lib.hid hwd
        have HL2 := Lib.hid hl2
        have fd : wd.frozen? ⟨b2, k * 2, none⟩ = false := by rw [← hwd]; exact f0
        have xd : wd.cell? ⟨b2, k * 2, none⟩ = some (.int .u64 x) := by rw [← hwd]; exact x0
        clear h hm hL0 e3 hcu hb1 hn ha hB0 hn1 hB1 hffn hn1u hcn hmb hkl hnext hx hlf hsl hxe hl1 hl2 hx' hn0 hn2 hwd f0
        go_wp2_with fail
        refine J.wp_region_seq (fun W => W.cell? ⟨b, m * 4 + 3, none⟩ = some (.slice (some ⟨b2, 0, none⟩) cn cc3) ∧ W.cell? ⟨b2, k * 2, none⟩ = some (.int .u64 x)) [(0, 0), (1, 0), (2, 0), (3, 0), (4, 0), (5, 0), (6, 0), (7, 0), (8, 0), (9, 0), (10, 0), (11, 0), (12, 0), (13, 0), (14, 0), (15, 0), (16, 0), (17, 1)] (by kernel_rfl) (by kernel_rfl) (by kernel_rfl) ⟨v3, x0⟩ ?_
        iterate 17 (apply J.look (by rfl) (by rfl); (focus (intro W hW; obtain ⟨hW0, hW1⟩ := hW; go_simp; exact HasV.val rfl)); simp only [Act.put, List.setIfInBounds_toArray, List.set_cons_zero, List.set_cons_succ])
        rw [HWD.out]
        refine J.final (fun u W' => u = undef ∧ W' = wd.setCell ⟨b2, k * 2, none⟩ (.int .u64 x')) (by rfl) (by rfl) (by kernel_rfl) ?_ ?_
        · go_simp
          exact J.HasR.skip ⟨rfl, rfl⟩
        rintro u W' ⟨rfl, rfl⟩
        simp only [Act.put, List.setIfInBounds_toArray, List.set_cons_zero, List.set_cons_succ]
        refine J.fin ?_
        go_wp2
        go_roundw
        case rel => exact ⟨k, by omega, by go_num, by rw [← HL2.out, hfin.out.2], Lib.hid hfin.out.1⟩
        case measure => simp [intOf]
end Go.Proofs.Ytpndkelbchjkiaa
