/- The document's ledger: Unbond. -/
import Derived.Test.YtpndkelbchjkiaaLr5
import Derived.Test.YtpndkelbchjkiaaLy
set_option linter.unusedVariables false
set_option linter.unusedSimpArgs false
namespace Go.Proofs.Ytpndkelbchjkiaa
open Go.RowKit Go.Ps
theorem pos_lt (era : Int) : ∀ (l : List (Int × Int)) (t : Nat), t < pos era l → (l.getD t d0).2 < era
  | [], t, h => by simp [pos] at h
  | x :: l, t, h => by
    unfold pos at h
    split at h
    · rename_i hx
      cases t with
      | zero => exact hx
      | succ t => exact pos_lt era l t (by omega)
    · omega
theorem pos_at (era : Int) : ∀ (l : List (Int × Int)), pos era l < l.length → ¬ (l.getD (pos era l) d0).2 < era
  | x :: l, h => by
    unfold pos at h ⊢
    split
    · rename_i hx
      rw [if_pos hx] at h
      exact pos_at era l (by simpa using h)
    · rename_i hx
      exact hx
theorem reads_take {w : World} {A : Option Addr} {l : List (Int × Int)} (h : ReadsF w fch A l) (k : Nat) : ReadsF w fch A (l.take k) := by
  intro hne
  obtain ⟨a, ha, hx⟩ := h (by rintro rfl; simp at hne)
  refine ⟨a, ha, fun i u hu => hx i u ?_⟩
  have hs : l.flatMap fch = (l.take k).flatMap fch ++ (l.drop k).flatMap fch := by rw [← List.flatMap_append, List.take_append_drop]
  rw [hs, List.getElem?_append_left ((List.getElem?_eq_some_iff.1 hu).1)]
  exact hu
theorem reads_drop {w : World} {A : Option Addr} {c : Nat} {l : List (Int × Int)} (h : OwnF w 94 2 fch (.slice A l.length c) l) (k : Nat) (hk : k ≤ l.length) : ReadsF w fch (cutN 2 A k c) (l.drop k) := by
  intro hne
  have hkl : k < l.length := by
    have : (l.drop k).length ≠ 0 := fun e => hne (List.eq_nil_of_length_eq_zero e)
    rw [List.length_drop] at this
    omega
  obtain ⟨b, c', cur, e1, _, _, hc, _⟩ := h.at_ layC d0 (by omega)
  simp only [Value.slice.injEq] at e1
  obtain ⟨rfl, -, rfl⟩ := e1
  obtain ⟨A', c'', e2, _, hr, _⟩ := h.form
  simp only [Value.slice.injEq, true_and] at e2
  obtain ⟨rfl, rfl⟩ := e2
  obtain ⟨a, ha, hx⟩ := hr (by rintro rfl; simp at hkl)
  simp only [Option.some.injEq] at ha
  subst ha
  have hs : l.flatMap fch = (l.take k).flatMap fch ++ (l.drop k).flatMap fch := by rw [← List.flatMap_append, List.take_append_drop]
  have hl : ((l.take k).flatMap fch).length = k * 2 := by rw [layC.length, List.length_take]; omega
  refine ⟨⟨b, k * 2, none⟩, ?_, fun i u hu => ?_⟩
  · unfold cutN
    rw [if_neg (by omega)]
    simp [add_zero]
  · have := hx (k * 2 + i) u (by rw [hs, List.getElem?_append_right (by omega), hl, Nat.add_sub_cancel_left]; exact hu)
    rw [add_zero] at this
    rw [add_plain]
    exact this
theorem RowC.app {w wr : World} {v : Value} {l m : List (Int × Int)} {A : Option Addr} (h : RowC w wr v l) (c : Nat) (hr : ReadsF wr fch A m) (hl : l.length ≤ 1000) (hm : m.length ≤ 1000) : ∃ A' c' w2, (Builtin.append_ #[80, 80] 80 #[v, .slice A m.length c]).run Try.prog wr = .ok (.slice A' (l.length + m.length) c') w2 ∧ RowC w w2 (.slice A' (l.length + m.length) c') (l ++ m) := by
  obtain ⟨A', c', w2, hrun, ho, hg, hat⟩ := h.1.appendF (P := Try.prog) layC 80 Try.underlying80 info94 rfl (m := m) c hr (by omega) (by omega)
  refine ⟨A', c', w2, hrun, ho, ?_, fun k hk => ?_⟩
  · exact h.2.1.trans ((Chg.refl (fun k => v.ownBlock = some k) wr).grown hg (fun k hk _ => hk)) (fun k hk e => by have := h.2.2 k e; omega)
  · rcases hat with e | e
    · exact h.2.2 k (e ▸ hk)
    · have := e.symm.trans hk
      simp at this
      have := h.2.1.size
      omega
theorem rcopy_facts {w W : World} {g b m : Nat} {V : Value} {L : List Row} {s1 : S} {a1 : Ac} (hS : Stp 79 82 94 S.hd2 w W g V L s1) (hm : m < L.length) (hms : m < s1.acc.length) (hb : V.ownBlock = some b) (ha : s1.acc.getD m a0 = a1) (hl : a1.ch.length ≤ 1000) :
    ∃ A0 c0 A' c' w2 u, W.cell? ⟨b, m * 4 + 3, none⟩ = some (.slice A0 a1.ch.length c0) ∧ (Builtin.append_ #[80, 80] 80 #[.slice (some ⟨W.heap.size, 0, none⟩) 0 0, .slice A0 a1.ch.length c0]).run Try.prog (W.alloc (.cells #[] 94)) = .ok (.slice A' a1.ch.length c') w2 ∧ w2.cell? ⟨b, m * 4 + 3, none⟩ = some u ∧ w2.frozen? ⟨b, m * 4 + 3, none⟩ = false ∧ Stp 79 82 94 S.hd2 w (w2.setCell ⟨b, m * 4 + 3, none⟩ (.slice A' a1.ch.length c')) g V L s1 := by
  obtain ⟨L1, hL1, hlen1, hC1, hM1⟩ := hS
  have hmL1 : m < L1.length := by omega
  obtain ⟨b', c1, A1, cc1, r1, r2, r3, hcells1⟩ := hL1.cells hmL1
  obtain rfl : b = b' := by have := hb.symm.trans r3; simpa using this
  obtain ⟨_, _, _, _, u4⟩ := hcells1 W (Chg.refl _ _)
  rw [ha] at u4 r2
  have hrow1 := hL1.at_.chs m hmL1
  rw [show (L1.getD m r0).1 = a1 by rw [← fst_getD, hL1.acc]; exact ha, r2] at hrow1
  obtain ⟨A0, c0, ev, A2, c2, w2, hrun, hR2⟩ := copyC hrow1 hl
  simp only [Value.slice.injEq, true_and] at ev
  obtain ⟨rfl, rfl⟩ := ev
  have hx2 := hL1.at_.rows.chg hR2.2.1 (fun _ _ => id)
  obtain ⟨b', _, cur3, q1, q2, q3, _, _, q6⟩ := hx2.at_ layA r0 (by omega)
  obtain rfl : b = b' := by have := hb.symm.trans q2; simpa using this
  have hS3 := Stp.setCh hds2 hL1 hmL1 hb (hR2.2.1.mono (fun _ _ h => h.elim)) hR2.1 (fun k hk => .inr (hR2.2.2 k hk))
  have he : { s1 with acc := s1.acc.set m { s1.acc.getD m a0 with ch := a1.ch } } = s1 := by
    rw [show { s1.acc.getD m a0 with ch := a1.ch } = s1.acc.getD m a0 by rw [ha]]
    have : s1.acc.set m (s1.acc.getD m a0) = s1.acc := by
      apply List.ext_getElem?
      intro j
      rw [List.getElem?_set]
      split
      · rename_i e
        subst e
        simp [hms]
      · rfl
    rw [this]
  rw [he] at hS3
  exact ⟨_, _, A2, c2, w2, _, u4, hrun, cell_of q3 _ ((q6 m 3 hmL1 (by omega)).trans rfl), frozen_of q3 _, Stp.glue hlen1 hC1 hM1 hS3⟩
theorem runb_facts {w W : World} {g b m : Nat} {V : Value} {L : List Row} {s1 : S} {a1 : Ac} {k : Nat} {n : Int} (hS : Stp 79 82 94 S.hd2 w W g V L s1) (hm : m < L.length) (hms : m < s1.acc.length) (hb : V.ownBlock = some b) (ha : s1.acc.getD m a0 = a1) (hk : k < a1.ch.length) (hn : n ≤ a1.bonded) (hn64 : U64 n) (hB : U64 a1.bonded) :
    ∃ b2 cc2, W.drew.cell? ⟨b, m * 4 + 3, none⟩ = some (.slice (some ⟨b2, 0, none⟩) a1.ch.length cc2) ∧ Calls Try.prog 65 #[.pointer (some ⟨b, m * 4 + 1, none⟩), .pointer (some ⟨b2, k * 2, none⟩), .int .u64 n] W.drew fun e w' => e = .returned (.int .i64 0) ∧ Stp 79 82 94 S.hd2 w w' g V L { s1 with acc := s1.acc.set m (Ac.unb a1 k n) } ∧ w'.cell? ⟨b, m * 4 + 3, none⟩ = some (.slice (some ⟨b2, 0, none⟩) a1.ch.length cc2) := by
  obtain ⟨L1, hL0, hlen, hC, hM⟩ := hS
  have hL : LS 79 82 94 S.hd2 W.drew g V L1 s1 := hL0.keep (Chg.refl _ W).drew
  have hm1 : m < L1.length := by omega
  obtain ⟨b3, c3, A3, cc3, r1, r2, r3, hc3⟩ := hL.cells hm1
  obtain rfl : b = b3 := by have := hb.symm.trans r3; simpa using this
  obtain ⟨_, _, u1, _, u3⟩ := hc3 W.drew (Chg.refl _ _)
  have hrow := hL.at_.chs m hm1
  have hxx : (L1.getD m r0).1 = a1 := by rw [← fst_getD, hL.acc]; exact ha
  rw [hxx] at hrow
  rw [ha] at u1 u3 r2
  obtain ⟨b2, c5, p1, p2, _, p4, _, p6, _⟩ := ownC_cells hrow (k := k) hk
  rw [r2] at p1
  simp only [Value.slice.injEq, true_and] at p1
  obtain ⟨rfl, rfl⟩ := p1
  obtain ⟨_, f1⟩ := hL.get hds2 (P := .acc m 1) ⟨hms, by omega⟩ (fun _ _ => hb)
  simp only [adr] at f1
  refine ⟨b2, cc3, u3, ?_⟩
  refine (rmove_any ⟨b, m * 4 + 1, none⟩ ⟨b2, k * 2, none⟩ a1.bonded (a1.ch.getD k d0).1 n W.drew u1 p4 f1 p6 hB hn64).mono ?_
  intro e w' hp
  rw [← ha] at hp hk hn
  obtain ⟨k1, k2, k3⟩ := unb_post hds2 hL hm1 hb p2 hk hn hp
  rw [ha] at k2
  exact ⟨k1, Stp.glue hlen (hC.drew) hM k2, k3.trans u3⟩
set_option maxRecDepth 20000 in
set_option maxHeartbeats 8000000 in
theorem runbond_any {w : World} {g : Nat} {V : Value} {L : List Row} {s : S} (h : LS 79 82 94 S.hd2 w g V L s) (hU : s.U) (id n era : Int) (hn : U64 n) (hch : (s.acc.getD id.toNat a0).ch.length ≤ 900) :
    Calls Try.prog 44 #[.pointer (some ⟨g, 0, none⟩), .int .i64 id, .int .u64 n, .int .i64 era] w fun e w' => e = .returned (.int .i64 (s.unbond id n era).2) ∧ Stp 79 82 94 S.hd2 w w' g V L (s.unbond id n era).1 := by
  unfold S.unbond
  by_cases h0 : s.bad id
  · simp only [if_pos h0]
    have hf := there_no h h0
    have HL := Lib.hid h
    clear h hch h0 hU hn
    go_enter Try.func44, Try.ntmps44
    go_wp2_with fail
    refine hf.mono ?_
    rintro e w1 ⟨rfl, rfl⟩
    go_wp2
    go_ret
    exact ⟨rfl, Stp.refl HL.out (Chg.refl _ _)⟩
  · rw [if_neg h0]
    have hf := there_yes h h0
    obtain ⟨m, rfl⟩ : ∃ m : Nat, id = (m : Int) := ⟨id.toNat, by unfold S.bad at h0; omega⟩
    have hm : m < s.acc.length := by unfold S.bad at h0; omega
    simp only [Int.toNat_natCast] at hch ⊢
    have hmL : m < L.length := by rw [h.len]; exact hm
    have hb1 : U64 (s.acc.getD m a0).bonded := hU (.acc m 1) ⟨hm, by omega⟩
    obtain ⟨b, c, A, cc, e1, e2, e3, hcells⟩ := h.cells hmL
    have hrow := h.at_.chs m hmL
    have hxx : (L.getD m r0).1 = s.acc.getD m a0 := by rw [← fst_getD, h.acc]
    rw [hxx] at hrow
    obtain ⟨a, ha⟩ : ∃ a, a = s.acc.getD m a0 := ⟨_, rfl⟩
    rw [← ha] at hch hb1 hcells e2 hrow hxx ⊢
    obtain ⟨R, hR⟩ : ∃ R : S × Int, R = (if n = 0 then (s, 1) else if a.bonded < n then (s, 8) else if ¬ thr a.ch era ∧ 8 ≤ a.ch.length then (s, 7) else ({ s with acc := s.acc.set m (Ac.unb { a with ch := insC a.ch era } (pos era a.ch) n) }, 0)) := ⟨_, rfl⟩
    rw [← hR]
    rw [e2] at hrow
    obtain ⟨ln, hln⟩ : ∃ n, n = L.length := ⟨_, rfl⟩
    obtain ⟨B0, hB0⟩ : ∃ B, B = a.bonded := ⟨_, rfl⟩
    rw [← hB0] at hcells hb1
    have hrow0 := hrow
    obtain ⟨cn, hcn⟩ : ∃ n, n = a.ch.length := ⟨_, rfl⟩
    rw [← hcn] at hcells hch
    rw [← hln] at hcells hmL
    obtain ⟨k, hkp⟩ : ∃ k, k = pos era a.ch := ⟨_, rfl⟩
    have hkle : k ≤ cn := by rw [hkp, hcn]; exact pos_le _ _
    have HROW := Lib.hid hrow
    rw [← hcn] at HROW
    have HS := Lib.hid (⟨h, hm, e2, e3, ha, hln, hb1, hn, hB0⟩ : _ ∧ _ ∧ _ ∧ _ ∧ _ ∧ _ ∧ _ ∧ _ ∧ _)
    have HN := Lib.hid (⟨hcn, hkp⟩ : _ ∧ _)
    have HR := Lib.hid hR
    obtain ⟨k1, c0, d1, c2, d3⟩ := hcells w (Chg.refl _ _)
    have HC := Lib.hid hcells
    have hrun1 := RowC.app (w := w) (wr := w) (v := .slice none 0 0) (l := []) (m := a.ch.take k) (A := cutN 2 A 0 cc) ⟨OwnF.nil _ _ _ _, Chg.refl _ _, fun j hj => by cases hj⟩ cc (by
      obtain ⟨A', c', e, _, hr, _⟩ := hrow.form
      simp only [Value.slice.injEq, true_and] at e
      obtain ⟨rfl, rfl⟩ := e
      have hr := reads_take hr k
      unfold cutN
      split
      · exact hr
      · cases A with
        | none => exact hr
        | some a => simpa [Addr.add] using hr) (by simp) (by rw [List.length_take]; omega)
    have htk : (a.ch.take k).length = k := by rw [List.length_take]; omega
    rw [htk] at hrun1
    simp only [List.length_nil, Nat.zero_add, List.nil_append] at hrun1
    have hkcc : k ≤ cc := by
      obtain ⟨A', c', e, hc, _⟩ := hrow.form
      simp only [Value.slice.injEq, true_and] at e
      omega
    have hncc : cn ≤ cc := by
      obtain ⟨A', c', e, hc, _⟩ := hrow.form
      simp only [Value.slice.injEq, true_and] at e
      omega
    have hslH := fun W => run_cutNH (P := Try.prog) (t := 80) (e := 94) (sz := 2) Try.underlying80 rfl A cn cc (kj := .i64) k hkcc W
    have hslL := fun W => run_cutNL (P := Try.prog) (t := 80) (e := 94) (sz := 2) Try.underlying80 rfl A cn cc (ki := .i64) k hkle hncc W
    clear h h0 hm ha hln hU hn e1 e2 e3 hcn hrow hxx hR hB0 hb1 hkp hcells hrow0 htk
    go_enter Try.func44, Try.ntmps44
    go_wp2_with fail
    refine hf.mono ?_
    rintro e w1 ⟨rfl, rfl⟩
    clear hf
    by_cases n0 : n = 0
    · have hR1 : Hid (R = (s, 1)) := Lib.hid (by rw [HR.out, if_pos n0])
      clear HR hrun1 hslH hslL
      subst n0
      go_wp2
      go_ret
      rw [hR1.out]
      exact ⟨rfl, Stp.refl HS.out.1 (Chg.refl _ _)⟩
    by_cases n1 : B0 < n
    · clear hrun1 hslH hslL
      go_wp2
      go_ret
      rw [HR.out, if_neg n0, ← HS.out.2.2.2.2.2.2.2.2, if_pos n1]
      exact ⟨rfl, Stp.refl HS.out.1 (Chg.refl _ _)⟩
    have HR2 : Hid (R = if ¬ thr a.ch era ∧ 8 ≤ a.ch.length then (s, 7) else ({ s with acc := s.acc.set m (Ac.unb { a with ch := insC a.ch era } (pos era a.ch) n) }, 0)) := Lib.hid (by rw [HR.out, if_neg n0, ← HS.out.2.2.2.2.2.2.2.2, if_neg n1])
    have HRUN := Lib.hid (⟨hrun1, hslH, hslL⟩ : _ ∧ _ ∧ _)
    clear HR hrun1 hslH hslL
    go_wp2
    go_loop [10] (fun i => ∃ t : Nat, t ≤ k ∧ i = .int .i64 t) (fun i => k - (intOf i).toNat)
    case atStart => exact ⟨0, by omega, rfl⟩
    case round =>
      obtain ⟨t, ht, rfl⟩ := hrel
      by_cases htk : t < k
      · obtain ⟨bx, cx, e6, _, _, v0, v1, _⟩ := ownC_cells (HROW.out) (k := t) (by have := HN.out.1; omega)
        rw [← HN.out.1] at e6
        simp only [Value.slice.injEq] at e6
        obtain ⟨rfl, -, rfl⟩ := e6
        have hlt := pos_lt era a.ch t (by rw [← HN.out.2]; exact htk)
        obtain ⟨et, het⟩ : ∃ x, x = (a.ch.getD t d0).2 := ⟨_, rfl⟩
        rw [← het] at v1 hlt
        have htc : t < cn := by omega
        clear v0 het
        go_wp2
        go_round
        case rel => exact ⟨t + 1, by omega, by go_num⟩
        case measure => simp [intOf]; omega
      · have et : t = k := by omega
        subst et
        obtain ⟨h, hm, e2, e3, ha, hln, hb1, hn, hB0⟩ := HS.out
        by_cases hthr : thr a.ch era
        · have hkc : t < cn := by rw [HN.out.2, HN.out.1]; exact hthr.1
          have HR3 : Hid (R = ({ s with acc := s.acc.set m (Ac.unb a t n) }, 0)) := Lib.hid (by
            rw [HR2.out, if_neg (fun h => h.1 hthr), HN.out.2, show insC a.ch era = a.ch from if_pos hthr])
          obtain ⟨bx, cx, e6, _, _, v0, v1, _⟩ := ownC_cells (HROW.out) (k := t) (by have := HN.out.1; omega)
          rw [← HN.out.1] at e6
          simp only [Value.slice.injEq] at e6
          obtain ⟨rfl, -, rfl⟩ := e6
          have het : (a.ch.getD t d0).2 = era := by rw [HN.out.2]; exact hthr.2
          rw [het] at v1
          have hgd : s.acc.getD m a0 = a := ha.symm
          have hal : a.ch.length ≤ 900 := by rw [← HN.out.1]; exact hch
          have hkl : t < a.ch.length := by rw [← HN.out.1]; exact hkc
          have hcf := rcopy_facts (Stp.refl h (Chg.refl _ _)) (by omega) (by simpa using hm) e3 hgd (by show a.ch.length ≤ 1000; omega)
          obtain ⟨A0, c0, A4, c4, w4, u4, g1, g2, g3, g4, g5⟩ := hcf
          obtain ⟨b2, cc2, hW⟩ := runb_facts g5 (by omega) (by simpa using hm) e3 hgd hkl (by show n ≤ a.bonded; omega) hn (by show U64 a.bonded; rw [← hB0]; exact hb1)
          try simp only [List.set_set] at hW
          obtain ⟨TS, hTS⟩ : ∃ TS, TS = { s with acc := s.acc.set m (Ac.unb a t n) } := ⟨_, rfl⟩
          rw [← hTS] at hW HR3
          obtain ⟨ln2, hln2⟩ : ∃ l, l = a.ch.length := ⟨_, rfl⟩
          rw [← hln2] at hW g1 g2
          obtain ⟨W4, hW4⟩ : ∃ W, w4.setCell ⟨b, m * 4 + 3, none⟩ (.slice A4 ln2 c4) = W := ⟨_, rfl⟩
          rw [← hln2] at hkl
          rw [hW4] at hW
          have HW := Lib.hid hW
          have HW4 := Lib.hid hW4
          have g1' : (w.alloc (.cells #[] 94)).cell? ⟨b, m * 4 + 3, none⟩ = some (.slice A0 ln2 c0) := chg_cell ((Chg.refl (fun _ => False) _).alloc _) g1 id
          clear h hm e2 e3 ha hln hb1 hn hB0 hgd hal hW hTS hW4 g5 hthr v0 het hln2
          go_wp2_with (at_builtin; refine wpList_append_run rfl _ _ 80 rfl _ _ _ _ rfl rfl g2 ?_)
          rw [HW4.out]
          refine J.wp_region_seq (fun W => W.cell? ⟨b, m * 4 + 3, none⟩ = some (.slice (some ⟨b2, 0, none⟩) ln2 cc2)) [(0, 0), (1, 0), (2, 0), (3, 0), (4, 0), (5, 0), (6, 0), (7, 0), (8, 0), (9, 0), (10, 0), (11, 1), (12, 0)] (by kernel_rfl) (by kernel_rfl) (by kernel_rfl) HW.out.1 ?_
          iterate 11 (apply J.look (by rfl) (by rfl); (focus (intro W hW; go_simp; exact HasV.val rfl)); simp only [Act.put, List.setIfInBounds_toArray, List.set_cons_zero, List.set_cons_succ])
          refine J.link (fun v W => v = .int .i64 0 ∧ Stp 79 82 94 S.hd2 w W g V L TS ∧ W.cell? ⟨b, m * 4 + 3, none⟩ = some (.slice (some ⟨b2, 0, none⟩) ln2 cc2)) (by rfl) (by rfl) ?_ (fun v W hR => hR.2.2) ?_
          · go_simp
            refine J.HasR.call (HW.out.2.mono ?_)
            rintro e W ⟨rfl, hS, hc⟩
            exact ⟨_, rfl, rfl, hS, hc⟩
          rintro v W ⟨rfl, hS, hc⟩
          have HS := Lib.hid hS
          clear hS hc
          simp only [Act.put, List.setIfInBounds_toArray, List.set_cons_zero, List.set_cons_succ]
          apply J.look (by rfl) (by rfl); (focus (intro W hW; go_simp; exact HasV.val rfl)); simp only [Act.put, List.setIfInBounds_toArray, List.set_cons_zero, List.set_cons_succ]
          refine J.fin ?_
          go_wp2
          go_ret
          rw [HR3.out]
          exact ⟨rfl, HS.out⟩
        · by_cases hkc : t < cn
          · obtain ⟨bx, cx, e6, _, _, v0, v1, _⟩ := ownC_cells (HROW.out) (k := t) (by have := HN.out.1; omega)
            rw [← HN.out.1] at e6
            simp only [Value.slice.injEq] at e6
            obtain ⟨rfl, -, rfl⟩ := e6
            have hnl : ¬ (a.ch.getD t d0).2 < era := by rw [HN.out.2]; exact pos_at era a.ch (by rw [← HN.out.2, ← HN.out.1]; exact hkc)
            have hne : ¬ (a.ch.getD t d0).2 = era := fun e => hthr ⟨by rw [← HN.out.2, ← HN.out.1]; exact hkc, by rw [← HN.out.2]; exact e⟩
            obtain ⟨et, het⟩ : ∃ x, x = (a.ch.getD t d0).2 := ⟨_, rfl⟩
            rw [← het] at v1 hnl hne
            have heb : (et == era) = false := beq_eq_false_iff_ne.2 hne
            have htb : ((t : Int) == (cn : Int)) = false := beq_eq_false_iff_ne.2 (by omega)
            clear v0 het hne
            have hins : insC a.ch era = a.ch.take t ++ (0, era) :: a.ch.drop t := by rw [HN.out.2]; exact if_neg hthr
            by_cases h8 : 8 ≤ cn
            · have hR3 : Hid (R = (s, 7)) := Lib.hid (by rw [HR2.out, if_pos ⟨hthr, by rw [← HN.out.1]; exact h8⟩])
              clear h hm e2 e3 ha hln hb1 hn hB0 hthr hins HRUN
              go_wp2
              go_ret
              rw [hR3.out]
              exact ⟨rfl, Stp.refl HS.out.1 (Chg.refl _ _)⟩
            · have HR3 : Hid (R = ({ s with acc := s.acc.set m (Ac.unb { a with ch := insC a.ch era } t n) }, 0)) := Lib.hid (by
                rw [HR2.out, if_neg (fun h => h8 (by rw [HN.out.1]; exact h.2)), HN.out.2])
              obtain ⟨⟨A1, c1, w1, hrun1, hR1⟩, hslH, hslL⟩ := HRUN.out
              have hcn := HN.out.1
              obtain ⟨A2, c2, w2, hrun2, hR2⟩ := hR1.push (0, era) (by rw [List.length_take]; omega)
              have hrd := reads_drop (c := cc) (w := w2) (l := a.ch) (by rw [← hcn]; exact HROW.out.chg hR2.2.1 (fun _ _ => id)) t (by omega)
              obtain ⟨A3, c3, w3, hrun3, hR3⟩ := hR2.app (cc - t) hrd (by simp; omega) (by rw [List.length_drop]; omega)
              have htl : (a.ch.take t).length = t := by rw [List.length_take]; omega
              rw [List.length_drop, List.length_append, htl, ← hcn] at hrun3
              rw [List.length_drop, List.length_append, htl, ← hcn] at hR3
              rw [htl] at hrun2
              rw [List.append_assoc, List.singleton_append, ← hins] at hR3
              simp only [List.length_cons, List.length_nil, Nat.zero_add] at hrun3 hR3
              obtain ⟨n3, hn3⟩ : ∃ x, x = t + 1 + (cn - t) := ⟨_, rfl⟩
              rw [← hn3] at hrun3 hR3
              have hS3 := Stp.setCh (m := m) hds2 h (by omega) e3 (hR3.2.1.mono (fun _ _ h => h.elim)) hR3.1 (fun k hk => .inr (hR3.2.2 k hk))
              rw [← ha] at hS3
              have hgd := getD_setA s.acc m { a with ch := insC a.ch era } hm
              have hkl : t < (insC a.ch era).length := by rw [HN.out.2]; exact pos_ins _ _
              have hal : (insC a.ch era).length ≤ 901 := by rw [hins]; simp; omega
              have hx3 := h.at_.rows.chg hR3.2.1 (fun _ _ => id)
              obtain ⟨b', _, cur3, q1, q2, q3, _, _, q6⟩ := hx3.at_ layA r0 (by omega)
              obtain rfl : b = b' := by have := e3.symm.trans q2; simpa using this
              obtain ⟨u3, hu3⟩ : ∃ u, w3.cell? ⟨b, m * 4 + 3, none⟩ = some u := ⟨_, cell_of q3 _ ((q6 m 3 (by omega) (by omega)).trans rfl)⟩
              have f3 := frozen_of q3 (m * 4 + 3)
              obtain ⟨_, _, _, _, y2⟩ := HC.out w2 hR2.2.1
              have hHS := HS.out
              obtain ⟨W3, hW3⟩ : ∃ W, w3.setCell ⟨b, m * 4 + 3, none⟩ (.slice A3 n3 c3) = W := ⟨_, rfl⟩
              have hS3W := hS3
              rw [hW3] at hS3W
              have HW3 := Lib.hid hW3
              have hcf := rcopy_facts hS3W (by omega) (by simpa using hm) e3 hgd (by show (insC a.ch era).length ≤ 1000; omega)
              obtain ⟨A0, c0, A4, c4, w4, u4, g1, g2, g3, g4, g5⟩ := hcf
              obtain ⟨b2, cc2, hW⟩ := runb_facts g5 (by omega) (by simpa using hm) e3 hgd hkl (by show n ≤ a.bonded; omega) hn (by show U64 a.bonded; rw [← hB0]; exact hb1)
              try simp only [List.set_set] at hW
              obtain ⟨TS, hTS⟩ : ∃ TS, TS = { s with acc := s.acc.set m (Ac.unb { a with ch := insC a.ch era } t n) } := ⟨_, rfl⟩
              rw [← hTS] at hW HR3
              obtain ⟨ln2, hln2⟩ : ∃ l, l = (insC a.ch era).length := ⟨_, rfl⟩
              rw [← hln2] at hW g1 g2
              obtain ⟨W4, hW4⟩ : ∃ W, w4.setCell ⟨b, m * 4 + 3, none⟩ (.slice A4 ln2 c4) = W := ⟨_, rfl⟩
              rw [← hln2] at hkl
              rw [hW4] at hW
              have HW := Lib.hid hW
              have HW4 := Lib.hid hW4
              have g1' : (W3.alloc (.cells #[] 94)).cell? ⟨b, m * 4 + 3, none⟩ = some (.slice A0 ln2 c0) := chg_cell ((Chg.refl (fun _ => False) _).alloc _) g1 id
              clear hW3 hS3W hW4
              clear h hm e2 e3 ha hln hb1 hn hB0 hthr hins HRUN hR1 hR2 hR3 hcn hrd htl hS3 hgd hal hx3 q1 q2 q3 q6 hW hTS g5 hHS hn3 hln2
              go_upto_region 15 with (fail)
              go_upto_region 16 with (first | (with_reducible refine wpList_slice_run rfl 80 _ none _ rfl _ _ none _ rfl rfl rfl (hslH _) ?_) | (at_builtin; refine wpList_append_run rfl _ _ 80 rfl _ _ _ _ rfl rfl hrun1 ?_))
              clear hrun1 hslH
              go_upto_region 17 with (at_builtin; refine wpList_append_run rfl _ _ 80 rfl _ _ _ _ rfl rfl hrun2 ?_)
              clear hrun2
              go_upto_region 18 with (first | (with_reducible refine wpList_slice_run rfl 80 _ _ none rfl _ _ _ none rfl rfl rfl (hslL _) ?_) | (at_builtin; refine wpList_append_run rfl _ _ 80 rfl _ _ _ _ rfl rfl hrun3 ?_))
              clear hrun3 hslL
              rw [HW3.out]
              go_wp2_with (at_builtin; refine wpList_append_run rfl _ _ 80 rfl _ _ _ _ rfl rfl g2 ?_)
              rw [HW4.out]
              refine J.wp_region_seq (fun W => W.cell? ⟨b, m * 4 + 3, none⟩ = some (.slice (some ⟨b2, 0, none⟩) ln2 cc2)) [(0, 0), (1, 0), (2, 0), (3, 0), (4, 0), (5, 0), (6, 0), (7, 0), (8, 0), (9, 0), (10, 0), (11, 1), (12, 0)] (by kernel_rfl) (by kernel_rfl) (by kernel_rfl) HW.out.1 ?_
              iterate 11 (apply J.look (by rfl) (by rfl); (focus (intro W hW; go_simp; exact HasV.val rfl)); simp only [Act.put, List.setIfInBounds_toArray, List.set_cons_zero, List.set_cons_succ])
              refine J.link (fun v W => v = .int .i64 0 ∧ Stp 79 82 94 S.hd2 w W g V L TS ∧ W.cell? ⟨b, m * 4 + 3, none⟩ = some (.slice (some ⟨b2, 0, none⟩) ln2 cc2)) (by rfl) (by rfl) ?_ (fun v W hR => hR.2.2) ?_
              · go_simp
                refine J.HasR.call (HW.out.2.mono ?_)
                rintro e W ⟨rfl, hS, hc⟩
                exact ⟨_, rfl, rfl, hS, hc⟩
              rintro v W ⟨rfl, hS, hc⟩
              have HS := Lib.hid hS
              clear hS hc
              simp only [Act.put, List.setIfInBounds_toArray, List.set_cons_zero, List.set_cons_succ]
              apply J.look (by rfl) (by rfl); (focus (intro W hW; go_simp; exact HasV.val rfl)); simp only [Act.put, List.setIfInBounds_toArray, List.set_cons_zero, List.set_cons_succ]
              refine J.fin ?_
              go_wp2
              go_ret
              rw [HR3.out]
              exact ⟨rfl, HS.out⟩
          · have htb : ((t : Int) == (cn : Int)) = true := by simp; omega
            have hins : insC a.ch era = a.ch.take t ++ (0, era) :: a.ch.drop t := by rw [HN.out.2]; exact if_neg hthr
            by_cases h8 : 8 ≤ cn
            · have hR3 : Hid (R = (s, 7)) := Lib.hid (by rw [HR2.out, if_pos ⟨hthr, by rw [← HN.out.1]; exact h8⟩])
              clear h hm e2 e3 ha hln hb1 hn hB0 hthr hins HRUN
              go_wp2
              go_ret
              rw [hR3.out]
              exact ⟨rfl, Stp.refl HS.out.1 (Chg.refl _ _)⟩
            · have HR3 : Hid (R = ({ s with acc := s.acc.set m (Ac.unb { a with ch := insC a.ch era } t n) }, 0)) := Lib.hid (by
                rw [HR2.out, if_neg (fun h => h8 (by rw [HN.out.1]; exact h.2)), HN.out.2])
              obtain ⟨⟨A1, c1, w1, hrun1, hR1⟩, hslH, hslL⟩ := HRUN.out
              have hcn := HN.out.1
              obtain ⟨A2, c2, w2, hrun2, hR2⟩ := hR1.push (0, era) (by rw [List.length_take]; omega)
              have hrd := reads_drop (c := cc) (w := w2) (l := a.ch) (by rw [← hcn]; exact HROW.out.chg hR2.2.1 (fun _ _ => id)) t (by omega)
              obtain ⟨A3, c3, w3, hrun3, hR3⟩ := hR2.app (cc - t) hrd (by simp; omega) (by rw [List.length_drop]; omega)
              have htl : (a.ch.take t).length = t := by rw [List.length_take]; omega
              rw [List.length_drop, List.length_append, htl, ← hcn] at hrun3
              rw [List.length_drop, List.length_append, htl, ← hcn] at hR3
              rw [htl] at hrun2
              rw [List.append_assoc, List.singleton_append, ← hins] at hR3
              simp only [List.length_cons, List.length_nil, Nat.zero_add] at hrun3 hR3
              obtain ⟨n3, hn3⟩ : ∃ x, x = t + 1 + (cn - t) := ⟨_, rfl⟩
              rw [← hn3] at hrun3 hR3
              have hS3 := Stp.setCh (m := m) hds2 h (by omega) e3 (hR3.2.1.mono (fun _ _ h => h.elim)) hR3.1 (fun k hk => .inr (hR3.2.2 k hk))
              rw [← ha] at hS3
              have hgd := getD_setA s.acc m { a with ch := insC a.ch era } hm
              have hkl : t < (insC a.ch era).length := by rw [HN.out.2]; exact pos_ins _ _
              have hal : (insC a.ch era).length ≤ 901 := by rw [hins]; simp; omega
              have hx3 := h.at_.rows.chg hR3.2.1 (fun _ _ => id)
              obtain ⟨b', _, cur3, q1, q2, q3, _, _, q6⟩ := hx3.at_ layA r0 (by omega)
              obtain rfl : b = b' := by have := e3.symm.trans q2; simpa using this
              obtain ⟨u3, hu3⟩ : ∃ u, w3.cell? ⟨b, m * 4 + 3, none⟩ = some u := ⟨_, cell_of q3 _ ((q6 m 3 (by omega) (by omega)).trans rfl)⟩
              have f3 := frozen_of q3 (m * 4 + 3)
              obtain ⟨_, _, _, _, y2⟩ := HC.out w2 hR2.2.1
              have hHS := HS.out
              obtain ⟨W3, hW3⟩ : ∃ W, w3.setCell ⟨b, m * 4 + 3, none⟩ (.slice A3 n3 c3) = W := ⟨_, rfl⟩
              have hS3W := hS3
              rw [hW3] at hS3W
              have HW3 := Lib.hid hW3
              have hcf := rcopy_facts hS3W (by omega) (by simpa using hm) e3 hgd (by show (insC a.ch era).length ≤ 1000; omega)
              obtain ⟨A0, c0, A4, c4, w4, u4, g1, g2, g3, g4, g5⟩ := hcf
              obtain ⟨b2, cc2, hW⟩ := runb_facts g5 (by omega) (by simpa using hm) e3 hgd hkl (by show n ≤ a.bonded; omega) hn (by show U64 a.bonded; rw [← hB0]; exact hb1)
              try simp only [List.set_set] at hW
              obtain ⟨TS, hTS⟩ : ∃ TS, TS = { s with acc := s.acc.set m (Ac.unb { a with ch := insC a.ch era } t n) } := ⟨_, rfl⟩
              rw [← hTS] at hW HR3
              obtain ⟨ln2, hln2⟩ : ∃ l, l = (insC a.ch era).length := ⟨_, rfl⟩
              rw [← hln2] at hW g1 g2
              obtain ⟨W4, hW4⟩ : ∃ W, w4.setCell ⟨b, m * 4 + 3, none⟩ (.slice A4 ln2 c4) = W := ⟨_, rfl⟩
              rw [← hln2] at hkl
              rw [hW4] at hW
              have HW := Lib.hid hW
              have HW4 := Lib.hid hW4
              have g1' : (W3.alloc (.cells #[] 94)).cell? ⟨b, m * 4 + 3, none⟩ = some (.slice A0 ln2 c0) := chg_cell ((Chg.refl (fun _ => False) _).alloc _) g1 id
              clear hW3 hS3W hW4
              clear h hm e2 e3 ha hln hb1 hn hB0 hthr hins HRUN hR1 hR2 hR3 hcn hrd htl hS3 hgd hal hx3 q1 q2 q3 q6 hW hTS g5 hHS hn3 hln2
              go_upto_region 15 with (fail)
              go_upto_region 16 with (first | (with_reducible refine wpList_slice_run rfl 80 _ none _ rfl _ _ none _ rfl rfl rfl (hslH _) ?_) | (at_builtin; refine wpList_append_run rfl _ _ 80 rfl _ _ _ _ rfl rfl hrun1 ?_))
              clear hrun1 hslH
              go_upto_region 17 with (at_builtin; refine wpList_append_run rfl _ _ 80 rfl _ _ _ _ rfl rfl hrun2 ?_)
              clear hrun2
              go_upto_region 18 with (first | (with_reducible refine wpList_slice_run rfl 80 _ _ none rfl _ _ _ none rfl rfl rfl (hslL _) ?_) | (at_builtin; refine wpList_append_run rfl _ _ 80 rfl _ _ _ _ rfl rfl hrun3 ?_))
              clear hrun3 hslL
              rw [HW3.out]
              go_wp2_with (at_builtin; refine wpList_append_run rfl _ _ 80 rfl _ _ _ _ rfl rfl g2 ?_)
              rw [HW4.out]
              refine J.wp_region_seq (fun W => W.cell? ⟨b, m * 4 + 3, none⟩ = some (.slice (some ⟨b2, 0, none⟩) ln2 cc2)) [(0, 0), (1, 0), (2, 0), (3, 0), (4, 0), (5, 0), (6, 0), (7, 0), (8, 0), (9, 0), (10, 0), (11, 1), (12, 0)] (by kernel_rfl) (by kernel_rfl) (by kernel_rfl) HW.out.1 ?_
              iterate 11 (apply J.look (by rfl) (by rfl); (focus (intro W hW; go_simp; exact HasV.val rfl)); simp only [Act.put, List.setIfInBounds_toArray, List.set_cons_zero, List.set_cons_succ])
              refine J.link (fun v W => v = .int .i64 0 ∧ Stp 79 82 94 S.hd2 w W g V L TS ∧ W.cell? ⟨b, m * 4 + 3, none⟩ = some (.slice (some ⟨b2, 0, none⟩) ln2 cc2)) (by rfl) (by rfl) ?_ (fun v W hR => hR.2.2) ?_
              · go_simp
                refine J.HasR.call (HW.out.2.mono ?_)
                rintro e W ⟨rfl, hS, hc⟩
                exact ⟨_, rfl, rfl, hS, hc⟩
              rintro v W ⟨rfl, hS, hc⟩
              have HS := Lib.hid hS
              clear hS hc
              simp only [Act.put, List.setIfInBounds_toArray, List.set_cons_zero, List.set_cons_succ]
              apply J.look (by rfl) (by rfl); (focus (intro W hW; go_simp; exact HasV.val rfl)); simp only [Act.put, List.setIfInBounds_toArray, List.set_cons_zero, List.set_cons_succ]
              refine J.fin ?_
              go_wp2
              go_ret
              rw [HR3.out]
              exact ⟨rfl, HS.out⟩
end Go.Proofs.Ytpndkelbchjkiaa
