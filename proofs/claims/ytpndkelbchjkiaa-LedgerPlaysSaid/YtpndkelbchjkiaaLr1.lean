/- The document's ledger: the methods that move an amount. -/
import Derived.Test.YtpndkelbchjkiaaLi
set_option linter.unusedVariables false
set_option linter.unusedSimpArgs false
namespace Go.Proofs.Ytpndkelbchjkiaa
open Go.RowKit Go.Ps
theorem hds2 : Hds S.hd2 := .inr rfl
theorem there_yes {w : World} {g : Nat} {V : Value} {L : List Row} {s : S} (h : LS 79 82 94 S.hd2 w g V L s) {id : Int} (hb : ¬ s.bad id) : Calls Try.prog 64 #[.pointer (some ⟨g, 0, none⟩), .int .i64 id] w fun e w' => e = .returned (.bool true) ∧ w = w' := by
  obtain ⟨A, c, e1, _⟩ := h.at_.rows.form
  have hc := cell_of h.at_.cell 0 rfl
  rw [e1] at hc
  obtain ⟨n, hn⟩ : ∃ n, n = L.length := ⟨_, rfl⟩
  rw [← hn] at hc
  have h1 : 0 ≤ id := by unfold S.bad at hb; omega
  have h2 : id < (n : Int) := by rw [hn, h.len]; unfold S.bad at hb; omega
  clear h hb e1 hn
  go_enter Try.func64, Try.ntmps64
  go_wp2
  go_ret
  exact ⟨rfl, rfl⟩
theorem there_no {w : World} {g : Nat} {V : Value} {L : List Row} {s : S} (h : LS 79 82 94 S.hd2 w g V L s) {id : Int} (hb : s.bad id) : Calls Try.prog 64 #[.pointer (some ⟨g, 0, none⟩), .int .i64 id] w fun e w' => e = .returned (.bool false) ∧ w = w' := by
  obtain ⟨A, c, e1, _⟩ := h.at_.rows.form
  have hc := cell_of h.at_.cell 0 rfl
  rw [e1] at hc
  obtain ⟨n, hn⟩ : ∃ n, n = L.length := ⟨_, rfl⟩
  rw [← hn] at hc
  have h1 : id < 0 ∨ (n : Int) ≤ id := by rw [hn, h.len]; exact hb
  clear h hb e1 hn
  by_cases h0 : id < 0
  · clear h1
    go_enter Try.func64, Try.ntmps64
    go_wp2
    go_ret
    exact ⟨rfl, rfl⟩
  · have h2 : (n : Int) ≤ id := by omega
    clear h1
    go_enter Try.func64, Try.ntmps64
    go_wp2
    go_ret
    have : decide (id < (n : Int)) = false := by simp; omega
    exact ⟨by first | rfl | (rw [← this]; rfl), rfl⟩
set_option maxHeartbeats 1000000 in
theorem rmove_any (p q : Addr) (x y n : Int) (w : World) (hp : w.cell? p = some (.int .u64 x)) (hq : w.cell? q = some (.int .u64 y)) (fp : w.frozen? p = false) (fq : w.frozen? q = false) (hx : U64 x) (hn : U64 n) :
    Calls Try.prog 65 #[.pointer (some p), .pointer (some q), .int .u64 n] w (MovePost p q x n w) := by
  unfold MovePost
  by_cases h0 : x < n
  · simp only [if_pos h0]
    clear hx hn
    go_enter Try.func65, Try.ntmps65
    go_wp2
    go_ret
    exact ⟨rfl, rfl⟩
  · simp only [if_neg h0]
    have hw : IntKind.u64.wrap (x - n) = x - n := by rw [wrap64u]; unfold U64 at hx hn; omega
    obtain ⟨d, hd⟩ : ∃ d, x - n = d := ⟨_, rfl⟩
    rw [hd] at hw ⊢
    have hw1 : IntKind.u64.wrap (x - n) = d := by rw [hd]; exact hw
    have h1 : ∃ y1, (w.setCell p (.int .u64 d)).cell? q = some (.int .u64 y1) := by
      by_cases e : q = p
      · subst e
        exact ⟨d, World.cell?_setCell_same _ _ _ hp⟩
      · exact ⟨y, by rw [World.cell?_setCell_other _ _ _ _ (fun h => e h.symm)]; exact hq⟩
    obtain ⟨y1, hy1⟩ := h1
    have f1 : (w.setCell p (.int .u64 d)).frozen? q = false := by simpa using fq
    obtain ⟨m, hm⟩ : ∃ m, IntKind.u64.wrap (y1 + n) = m := ⟨_, rfl⟩
    have HM : Hid (m = (y1 + n) % 18446744073709551616) := Lib.hid (by rw [← hm, wrap64u])
    clear hx hn hq fq hd hw
    go_enter Try.func65, Try.ntmps65
    go_wp2
    go_ret
    exact ⟨rfl, by rw [HM.out]⟩
set_option maxHeartbeats 1000000 in
theorem rtransfer_any {w : World} {g : Nat} {V : Value} {L : List Row} {s : S} (h : LS 79 82 94 S.hd2 w g V L s) (hU : s.U) (a b n : Int) (hn : U64 n) :
    Calls Try.prog 42 #[.pointer (some ⟨g, 0, none⟩), .int .i64 a, .int .i64 b, .int .u64 n] w fun e w' => e = .returned (.int .i64 (s.transfer a b n).2) ∧ Stp 79 82 94 S.hd2 w w' g V L (s.transfer a b n).1 := by
  unfold S.transfer
  by_cases h0 : s.bad a ∨ s.bad b
  · simp only [if_pos h0]
    by_cases hx : s.bad a
    · have hf := there_no h hx
      have HL := Lib.hid h
      clear h hU hn h0 hx
      go_enter Try.func42, Try.ntmps42
      go_wp2_with fail
      refine hf.mono ?_
      rintro e w1 ⟨rfl, rfl⟩
      go_wp2
      go_ret
      exact ⟨rfl, Stp.refl HL.out (Chg.refl _ _)⟩
    · have hf := there_yes h hx
      have hf2 := there_no h (h0.resolve_left hx)
      have HL := Lib.hid h
      clear h hU hn h0 hx
      go_enter Try.func42, Try.ntmps42
      go_wp2_with fail
      refine hf.mono ?_
      rintro e w1 ⟨rfl, rfl⟩
      go_wp2_with fail
      refine hf2.mono ?_
      rintro e w2 ⟨rfl, rfl⟩
      go_wp2
      go_ret
      exact ⟨rfl, Stp.refl HL.out (Chg.refl _ _)⟩
  · simp only [if_neg h0]
    obtain ⟨q0, q1⟩ := not_or.1 h0
    have hf := there_yes h q0
    have hf2 := there_yes h q1
    obtain ⟨an, rfl⟩ : ∃ m : Nat, a = (m : Int) := ⟨a.toNat, by unfold S.bad at q0; omega⟩
    have la : an < s.acc.length := by unfold S.bad at q0; omega
    obtain ⟨bn, rfl⟩ : ∃ m : Nat, b = (m : Int) := ⟨b.toNat, by unfold S.bad at q1; omega⟩
    have lb : bn < s.acc.length := by unfold S.bad at q1; omega
    simp only [Int.toNat_natCast]
    obtain ⟨b, c, cur, e1, e2, e3, _⟩ := h.at_.acc (i := an) (by rw [h.len]; exact la)
    have hb : ∀ i, i < L.length → V.ownBlock = some b := fun _ _ => e2
    have hmv : ∀ w1, Chg (fun _ => False) w w1 → Calls Try.prog 65 #[.pointer (some (adr g b (.acc an 0))), .pointer (some (adr g b (.acc bn 0))), .int .u64 n] w1 fun e w' => e = .returned (.int .i64 (s.mv (.acc an 0) (.acc bn 0) n).2) ∧ Stp 79 82 94 S.hd2 w w' g V L (s.mv (.acc an 0) (.acc bn 0) n).1 := by
      intro w1 hC
      obtain ⟨k1, k2⟩ := (h.keep hC).get hds2 (P := (.acc an 0)) ⟨la, by omega⟩ hb
      obtain ⟨k3, k4⟩ := (h.keep hC).get hds2 (P := (.acc bn 0)) ⟨lb, by omega⟩ hb
      refine (rmove_any _ _ _ _ n w1 k1 k3 k2 k4 (hU (.acc an 0) ⟨la, by omega⟩) hn).mono ?_
      intro e w' hp
      obtain ⟨r1, r2⟩ := mv_post (P := (.acc an 0)) (Q := (.acc bn 0)) hds2 (h.keep hC) hb ⟨la, by omega⟩ ⟨lb, by omega⟩ hp
      exact ⟨r1, Stp.after hC r2⟩
    simp only [adr] at hmv
    obtain ⟨T, hT⟩ : ∃ T, T = s.mv (.acc an 0) (.acc bn 0) n := ⟨_, rfl⟩
    rw [← hT] at hmv ⊢
    obtain ⟨m, hm⟩ : ∃ m, m = L.length := ⟨_, rfl⟩
    rw [← hm] at e1 e3
    rw [← h.len, ← hm] at la lb
    have hc0 : ∀ w1, Chg (fun _ => False) w w1 → w1.cell? ⟨g, 0, none⟩ = some (.slice (some ⟨b, 0, none⟩) m c) := fun w1 hC => by
      have := cell_of (h.keep hC).at_.cell 0 rfl
      rw [e1] at this
      exact this
    have HE := Lib.hid e1
    clear h hU hn h0 q0 q1 hT hm hb e1 e2
    go_enter Try.func42, Try.ntmps42
    go_wp2_with fail
    refine hf.mono ?_
    rintro e w1 ⟨rfl, rfl⟩
    go_wp2_with fail
    refine hf2.mono ?_
    rintro e w2 ⟨rfl, rfl⟩
    have hmv := hmv _ ((Chg.refl _ w).drew)
    have hc0 := hc0 _ ((Chg.refl _ w).drew)
    clear hf hf2
    go_wp2_with fail
    refine J.wp_region_seq (fun W => W.cell? ⟨g, 0, none⟩ = some (.slice (some ⟨b, 0, none⟩) m c)) [(0, 0), (1, 0), (2, 0), (3, 0), (4, 0), (5, 0), (6, 0), (7, 0), (8, 0), (9, 0), (10, 0), (11, 0), (12, 0), (13, 0), (14, 0), (15, 1), (16, 0)] (by kernel_rfl) (by kernel_rfl) (by kernel_rfl) hc0 ?_
    iterate 15 (apply J.look (by rfl) (by rfl); (focus (intro W hW; go_simp; exact HasV.val rfl)); simp only [Act.put, List.setIfInBounds_toArray, List.set_cons_zero, List.set_cons_succ])
    refine J.link (fun v W => v = .int .i64 T.2 ∧ Stp 79 82 94 S.hd2 w W g V L T.1) (by rfl) (by rfl) ?_ (fun v W hR => by
      obtain ⟨L', hL, _⟩ := hR.2
      have := cell_of hL.at_.cell 0 rfl
      rw [HE.out] at this
      exact this) ?_
    · go_simp
      refine J.HasR.call (hmv.mono ?_)
      rintro e W ⟨rfl, hS⟩
      exact ⟨_, rfl, rfl, hS⟩
    rintro v W ⟨rfl, hS⟩
    have HS := Lib.hid hS
    clear hS hmv hc0
    simp only [Act.put, List.setIfInBounds_toArray, List.set_cons_zero, List.set_cons_succ]
    apply J.look (by rfl) (by rfl); (focus (intro W hW; go_simp; exact HasV.val rfl)); simp only [Act.put, List.setIfInBounds_toArray, List.set_cons_zero, List.set_cons_succ]
    refine J.fin ?_
    go_wp2
    go_ret
    exact ⟨rfl, HS.out⟩
set_option maxHeartbeats 1000000 in
theorem rbond_any {w : World} {g : Nat} {V : Value} {L : List Row} {s : S} (h : LS 79 82 94 S.hd2 w g V L s) (hU : s.U) (a n : Int) (hn : U64 n) :
    Calls Try.prog 43 #[.pointer (some ⟨g, 0, none⟩), .int .i64 a, .int .u64 n] w fun e w' => e = .returned (.int .i64 (s.bond a n).2) ∧ Stp 79 82 94 S.hd2 w w' g V L (s.bond a n).1 := by
  unfold S.bond
  by_cases h0 : s.bad a
  · simp only [if_pos h0]
    have hf := there_no h h0
    have HL := Lib.hid h
    clear h hU hn h0
    go_enter Try.func43, Try.ntmps43
    go_wp2_with fail
    refine hf.mono ?_
    rintro e w1 ⟨rfl, rfl⟩
    go_wp2
    go_ret
    exact ⟨rfl, Stp.refl HL.out (Chg.refl _ _)⟩
  · simp only [if_neg h0]
    have hf := there_yes h h0
    obtain ⟨an, rfl⟩ : ∃ m : Nat, a = (m : Int) := ⟨a.toNat, by unfold S.bad at h0; omega⟩
    have la : an < s.acc.length := by unfold S.bad at h0; omega
    simp only [Int.toNat_natCast]
    obtain ⟨b, c, cur, e1, e2, e3, _⟩ := h.at_.acc (i := an) (by rw [h.len]; exact la)
    have hb : ∀ i, i < L.length → V.ownBlock = some b := fun _ _ => e2
    have hmv : ∀ w1, Chg (fun _ => False) w w1 → Calls Try.prog 65 #[.pointer (some (adr g b (.acc an 0))), .pointer (some (adr g b (.acc an 1))), .int .u64 n] w1 fun e w' => e = .returned (.int .i64 (s.mv (.acc an 0) (.acc an 1) n).2) ∧ Stp 79 82 94 S.hd2 w w' g V L (s.mv (.acc an 0) (.acc an 1) n).1 := by
      intro w1 hC
      obtain ⟨k1, k2⟩ := (h.keep hC).get hds2 (P := (.acc an 0)) ⟨la, by omega⟩ hb
      obtain ⟨k3, k4⟩ := (h.keep hC).get hds2 (P := (.acc an 1)) ⟨la, by omega⟩ hb
      refine (rmove_any _ _ _ _ n w1 k1 k3 k2 k4 (hU (.acc an 0) ⟨la, by omega⟩) hn).mono ?_
      intro e w' hp
      obtain ⟨r1, r2⟩ := mv_post (P := (.acc an 0)) (Q := (.acc an 1)) hds2 (h.keep hC) hb ⟨la, by omega⟩ ⟨la, by omega⟩ hp
      exact ⟨r1, Stp.after hC r2⟩
    simp only [adr] at hmv
    obtain ⟨T, hT⟩ : ∃ T, T = s.mv (.acc an 0) (.acc an 1) n := ⟨_, rfl⟩
    rw [← hT] at hmv ⊢
    obtain ⟨m, hm⟩ : ∃ m, m = L.length := ⟨_, rfl⟩
    rw [← hm] at e1 e3
    rw [← h.len, ← hm] at la
    have hc0 : ∀ w1, Chg (fun _ => False) w w1 → w1.cell? ⟨g, 0, none⟩ = some (.slice (some ⟨b, 0, none⟩) m c) := fun w1 hC => by
      have := cell_of (h.keep hC).at_.cell 0 rfl
      rw [e1] at this
      exact this
    have HE := Lib.hid e1
    clear h hU hn h0  hT hm hb e1 e2
    go_enter Try.func43, Try.ntmps43
    go_wp2_with fail
    refine hf.mono ?_
    rintro e w1 ⟨rfl, rfl⟩
    have hmv := hmv _ ((Chg.refl _ w).drew)
    have hc0 := hc0 _ ((Chg.refl _ w).drew)
    clear hf
    go_wp2_with fail
    refine J.wp_region_seq (fun W => W.cell? ⟨g, 0, none⟩ = some (.slice (some ⟨b, 0, none⟩) m c)) [(0, 0), (1, 0), (2, 0), (3, 0), (4, 0), (5, 0), (6, 0), (7, 0), (8, 0), (9, 0), (10, 0), (11, 0), (12, 0), (13, 0), (14, 0), (15, 1), (16, 0)] (by kernel_rfl) (by kernel_rfl) (by kernel_rfl) hc0 ?_
    iterate 15 (apply J.look (by rfl) (by rfl); (focus (intro W hW; go_simp; exact HasV.val rfl)); simp only [Act.put, List.setIfInBounds_toArray, List.set_cons_zero, List.set_cons_succ])
    refine J.link (fun v W => v = .int .i64 T.2 ∧ Stp 79 82 94 S.hd2 w W g V L T.1) (by rfl) (by rfl) ?_ (fun v W hR => by
      obtain ⟨L', hL, _⟩ := hR.2
      have := cell_of hL.at_.cell 0 rfl
      rw [HE.out] at this
      exact this) ?_
    · go_simp
      refine J.HasR.call (hmv.mono ?_)
      rintro e W ⟨rfl, hS⟩
      exact ⟨_, rfl, rfl, hS⟩
    rintro v W ⟨rfl, hS⟩
    have HS := Lib.hid hS
    clear hS hmv hc0
    simp only [Act.put, List.setIfInBounds_toArray, List.set_cons_zero, List.set_cons_succ]
    apply J.look (by rfl) (by rfl); (focus (intro W hW; go_simp; exact HasV.val rfl)); simp only [Act.put, List.setIfInBounds_toArray, List.set_cons_zero, List.set_cons_succ]
    refine J.fin ?_
    go_wp2
    go_ret
    exact ⟨rfl, HS.out⟩
set_option maxHeartbeats 1000000 in
theorem rdeposit_any {w : World} {g : Nat} {V : Value} {L : List Row} {s : S} (h : LS 79 82 94 S.hd2 w g V L s) (hU : s.U) (a n : Int) (hn : U64 n) :
    Calls Try.prog 46 #[.pointer (some ⟨g, 0, none⟩), .int .i64 a, .int .u64 n] w fun e w' => e = .returned (.int .i64 (s.deposit a n).2) ∧ Stp 79 82 94 S.hd2 w w' g V L (s.deposit a n).1 := by
  unfold S.deposit
  by_cases h0 : s.bad a
  · simp only [if_pos h0]
    have hf := there_no h h0
    have HL := Lib.hid h
    clear h hU hn h0
    go_enter Try.func46, Try.ntmps46
    go_wp2_with fail
    refine hf.mono ?_
    rintro e w1 ⟨rfl, rfl⟩
    go_wp2
    go_ret
    exact ⟨rfl, Stp.refl HL.out (Chg.refl _ _)⟩
  · simp only [if_neg h0]
    have hf := there_yes h h0
    obtain ⟨an, rfl⟩ : ∃ m : Nat, a = (m : Int) := ⟨a.toNat, by unfold S.bad at h0; omega⟩
    have la : an < s.acc.length := by unfold S.bad at h0; omega
    simp only [Int.toNat_natCast]
    obtain ⟨b, c, cur, e1, e2, e3, _⟩ := h.at_.acc (i := an) (by rw [h.len]; exact la)
    have hb : ∀ i, i < L.length → V.ownBlock = some b := fun _ _ => e2
    have hmv : ∀ w1, Chg (fun _ => False) w w1 → Calls Try.prog 65 #[.pointer (some (adr g b (.acc an 0))), .pointer (some (adr g b (.acc an 2))), .int .u64 n] w1 fun e w' => e = .returned (.int .i64 (s.mv (.acc an 0) (.acc an 2) n).2) ∧ Stp 79 82 94 S.hd2 w w' g V L (s.mv (.acc an 0) (.acc an 2) n).1 := by
      intro w1 hC
      obtain ⟨k1, k2⟩ := (h.keep hC).get hds2 (P := (.acc an 0)) ⟨la, by omega⟩ hb
      obtain ⟨k3, k4⟩ := (h.keep hC).get hds2 (P := (.acc an 2)) ⟨la, by omega⟩ hb
      refine (rmove_any _ _ _ _ n w1 k1 k3 k2 k4 (hU (.acc an 0) ⟨la, by omega⟩) hn).mono ?_
      intro e w' hp
      obtain ⟨r1, r2⟩ := mv_post (P := (.acc an 0)) (Q := (.acc an 2)) hds2 (h.keep hC) hb ⟨la, by omega⟩ ⟨la, by omega⟩ hp
      exact ⟨r1, Stp.after hC r2⟩
    simp only [adr] at hmv
    obtain ⟨T, hT⟩ : ∃ T, T = s.mv (.acc an 0) (.acc an 2) n := ⟨_, rfl⟩
    rw [← hT] at hmv ⊢
    obtain ⟨m, hm⟩ : ∃ m, m = L.length := ⟨_, rfl⟩
    rw [← hm] at e1 e3
    rw [← h.len, ← hm] at la
    have hc0 : ∀ w1, Chg (fun _ => False) w w1 → w1.cell? ⟨g, 0, none⟩ = some (.slice (some ⟨b, 0, none⟩) m c) := fun w1 hC => by
      have := cell_of (h.keep hC).at_.cell 0 rfl
      rw [e1] at this
      exact this
    have HE := Lib.hid e1
    clear h hU hn h0  hT hm hb e1 e2
    go_enter Try.func46, Try.ntmps46
    go_wp2_with fail
    refine hf.mono ?_
    rintro e w1 ⟨rfl, rfl⟩
    have hmv := hmv _ ((Chg.refl _ w).drew)
    have hc0 := hc0 _ ((Chg.refl _ w).drew)
    clear hf
    go_wp2_with fail
    refine J.wp_region_seq (fun W => W.cell? ⟨g, 0, none⟩ = some (.slice (some ⟨b, 0, none⟩) m c)) [(0, 0), (1, 0), (2, 0), (3, 0), (4, 0), (5, 0), (6, 0), (7, 0), (8, 0), (9, 0), (10, 0), (11, 0), (12, 0), (13, 0), (14, 0), (15, 1), (16, 0)] (by kernel_rfl) (by kernel_rfl) (by kernel_rfl) hc0 ?_
    iterate 15 (apply J.look (by rfl) (by rfl); (focus (intro W hW; go_simp; exact HasV.val rfl)); simp only [Act.put, List.setIfInBounds_toArray, List.set_cons_zero, List.set_cons_succ])
    refine J.link (fun v W => v = .int .i64 T.2 ∧ Stp 79 82 94 S.hd2 w W g V L T.1) (by rfl) (by rfl) ?_ (fun v W hR => by
      obtain ⟨L', hL, _⟩ := hR.2
      have := cell_of hL.at_.cell 0 rfl
      rw [HE.out] at this
      exact this) ?_
    · go_simp
      refine J.HasR.call (hmv.mono ?_)
      rintro e W ⟨rfl, hS⟩
      exact ⟨_, rfl, rfl, hS⟩
    rintro v W ⟨rfl, hS⟩
    have HS := Lib.hid hS
    clear hS hmv hc0
    simp only [Act.put, List.setIfInBounds_toArray, List.set_cons_zero, List.set_cons_succ]
    apply J.look (by rfl) (by rfl); (focus (intro W hW; go_simp; exact HasV.val rfl)); simp only [Act.put, List.setIfInBounds_toArray, List.set_cons_zero, List.set_cons_succ]
    refine J.fin ?_
    go_wp2
    go_ret
    exact ⟨rfl, HS.out⟩
set_option maxHeartbeats 1000000 in
theorem rrelease_any {w : World} {g : Nat} {V : Value} {L : List Row} {s : S} (h : LS 79 82 94 S.hd2 w g V L s) (hU : s.U) (a n : Int) (hn : U64 n) :
    Calls Try.prog 47 #[.pointer (some ⟨g, 0, none⟩), .int .i64 a, .int .u64 n] w fun e w' => e = .returned (.int .i64 (s.release a n).2) ∧ Stp 79 82 94 S.hd2 w w' g V L (s.release a n).1 := by
  unfold S.release
  by_cases h0 : s.bad a
  · simp only [if_pos h0]
    have hf := there_no h h0
    have HL := Lib.hid h
    clear h hU hn h0
    go_enter Try.func47, Try.ntmps47
    go_wp2_with fail
    refine hf.mono ?_
    rintro e w1 ⟨rfl, rfl⟩
    go_wp2
    go_ret
    exact ⟨rfl, Stp.refl HL.out (Chg.refl _ _)⟩
  · simp only [if_neg h0]
    have hf := there_yes h h0
    obtain ⟨an, rfl⟩ : ∃ m : Nat, a = (m : Int) := ⟨a.toNat, by unfold S.bad at h0; omega⟩
    have la : an < s.acc.length := by unfold S.bad at h0; omega
    simp only [Int.toNat_natCast]
    obtain ⟨b, c, cur, e1, e2, e3, _⟩ := h.at_.acc (i := an) (by rw [h.len]; exact la)
    have hb : ∀ i, i < L.length → V.ownBlock = some b := fun _ _ => e2
    have hmv : ∀ w1, Chg (fun _ => False) w w1 → Calls Try.prog 65 #[.pointer (some (adr g b (.acc an 2))), .pointer (some (adr g b (.acc an 0))), .int .u64 n] w1 fun e w' => e = .returned (.int .i64 (s.mv (.acc an 2) (.acc an 0) n).2) ∧ Stp 79 82 94 S.hd2 w w' g V L (s.mv (.acc an 2) (.acc an 0) n).1 := by
      intro w1 hC
      obtain ⟨k1, k2⟩ := (h.keep hC).get hds2 (P := (.acc an 2)) ⟨la, by omega⟩ hb
      obtain ⟨k3, k4⟩ := (h.keep hC).get hds2 (P := (.acc an 0)) ⟨la, by omega⟩ hb
      refine (rmove_any _ _ _ _ n w1 k1 k3 k2 k4 (hU (.acc an 2) ⟨la, by omega⟩) hn).mono ?_
      intro e w' hp
      obtain ⟨r1, r2⟩ := mv_post (P := (.acc an 2)) (Q := (.acc an 0)) hds2 (h.keep hC) hb ⟨la, by omega⟩ ⟨la, by omega⟩ hp
      exact ⟨r1, Stp.after hC r2⟩
    simp only [adr] at hmv
    obtain ⟨T, hT⟩ : ∃ T, T = s.mv (.acc an 2) (.acc an 0) n := ⟨_, rfl⟩
    rw [← hT] at hmv ⊢
    obtain ⟨m, hm⟩ : ∃ m, m = L.length := ⟨_, rfl⟩
    rw [← hm] at e1 e3
    rw [← h.len, ← hm] at la
    have hc0 : ∀ w1, Chg (fun _ => False) w w1 → w1.cell? ⟨g, 0, none⟩ = some (.slice (some ⟨b, 0, none⟩) m c) := fun w1 hC => by
      have := cell_of (h.keep hC).at_.cell 0 rfl
      rw [e1] at this
      exact this
    have HE := Lib.hid e1
    clear h hU hn h0  hT hm hb e1 e2
    go_enter Try.func47, Try.ntmps47
    go_wp2_with fail
    refine hf.mono ?_
    rintro e w1 ⟨rfl, rfl⟩
    have hmv := hmv _ ((Chg.refl _ w).drew)
    have hc0 := hc0 _ ((Chg.refl _ w).drew)
    clear hf
    go_wp2_with fail
    refine J.wp_region_seq (fun W => W.cell? ⟨g, 0, none⟩ = some (.slice (some ⟨b, 0, none⟩) m c)) [(0, 0), (1, 0), (2, 0), (3, 0), (4, 0), (5, 0), (6, 0), (7, 0), (8, 0), (9, 0), (10, 0), (11, 0), (12, 0), (13, 0), (14, 0), (15, 1), (16, 0)] (by kernel_rfl) (by kernel_rfl) (by kernel_rfl) hc0 ?_
    iterate 15 (apply J.look (by rfl) (by rfl); (focus (intro W hW; go_simp; exact HasV.val rfl)); simp only [Act.put, List.setIfInBounds_toArray, List.set_cons_zero, List.set_cons_succ])
    refine J.link (fun v W => v = .int .i64 T.2 ∧ Stp 79 82 94 S.hd2 w W g V L T.1) (by rfl) (by rfl) ?_ (fun v W hR => by
      obtain ⟨L', hL, _⟩ := hR.2
      have := cell_of hL.at_.cell 0 rfl
      rw [HE.out] at this
      exact this) ?_
    · go_simp
      refine J.HasR.call (hmv.mono ?_)
      rintro e W ⟨rfl, hS⟩
      exact ⟨_, rfl, rfl, hS⟩
    rintro v W ⟨rfl, hS⟩
    have HS := Lib.hid hS
    clear hS hmv hc0
    simp only [Act.put, List.setIfInBounds_toArray, List.set_cons_zero, List.set_cons_succ]
    apply J.look (by rfl) (by rfl); (focus (intro W hW; go_simp; exact HasV.val rfl)); simp only [Act.put, List.setIfInBounds_toArray, List.set_cons_zero, List.set_cons_succ]
    refine J.fin ?_
    go_wp2
    go_ret
    exact ⟨rfl, HS.out⟩
set_option maxHeartbeats 1000000 in
theorem rforfeit_any {w : World} {g : Nat} {V : Value} {L : List Row} {s : S} (h : LS 79 82 94 S.hd2 w g V L s) (hU : s.U) (a n : Int) (hn : U64 n) :
    Calls Try.prog 48 #[.pointer (some ⟨g, 0, none⟩), .int .i64 a, .int .u64 n] w fun e w' => e = .returned (.int .i64 (s.forfeit a n).2) ∧ Stp 79 82 94 S.hd2 w w' g V L (s.forfeit a n).1 := by
  unfold S.forfeit
  by_cases h0 : s.bad a
  · simp only [if_pos h0]
    have hf := there_no h h0
    have HL := Lib.hid h
    clear h hU hn h0
    go_enter Try.func48, Try.ntmps48
    go_wp2_with fail
    refine hf.mono ?_
    rintro e w1 ⟨rfl, rfl⟩
    go_wp2
    go_ret
    exact ⟨rfl, Stp.refl HL.out (Chg.refl _ _)⟩
  · simp only [if_neg h0]
    have hf := there_yes h h0
    obtain ⟨an, rfl⟩ : ∃ m : Nat, a = (m : Int) := ⟨a.toNat, by unfold S.bad at h0; omega⟩
    have la : an < s.acc.length := by unfold S.bad at h0; omega
    simp only [Int.toNat_natCast]
    obtain ⟨b, c, cur, e1, e2, e3, _⟩ := h.at_.acc (i := an) (by rw [h.len]; exact la)
    have hb : ∀ i, i < L.length → V.ownBlock = some b := fun _ _ => e2
    have hmv : ∀ w1, Chg (fun _ => False) w w1 → Calls Try.prog 65 #[.pointer (some (adr g b (.acc an 2))), .pointer (some (adr g b .tre)), .int .u64 n] w1 fun e w' => e = .returned (.int .i64 (s.mv (.acc an 2) .tre n).2) ∧ Stp 79 82 94 S.hd2 w w' g V L (s.mv (.acc an 2) .tre n).1 := by
      intro w1 hC
      obtain ⟨k1, k2⟩ := (h.keep hC).get hds2 (P := (.acc an 2)) ⟨la, by omega⟩ hb
      obtain ⟨k3, k4⟩ := (h.keep hC).get hds2 (P := .tre) trivial hb
      refine (rmove_any _ _ _ _ n w1 k1 k3 k2 k4 (hU (.acc an 2) ⟨la, by omega⟩) hn).mono ?_
      intro e w' hp
      obtain ⟨r1, r2⟩ := mv_post (P := (.acc an 2)) (Q := .tre) hds2 (h.keep hC) hb ⟨la, by omega⟩ trivial hp
      exact ⟨r1, Stp.after hC r2⟩
    simp only [adr] at hmv
    obtain ⟨T, hT⟩ : ∃ T, T = s.mv (.acc an 2) .tre n := ⟨_, rfl⟩
    rw [← hT] at hmv ⊢
    obtain ⟨m, hm⟩ : ∃ m, m = L.length := ⟨_, rfl⟩
    rw [← hm] at e1 e3
    rw [← h.len, ← hm] at la
    have hc0 : ∀ w1, Chg (fun _ => False) w w1 → w1.cell? ⟨g, 0, none⟩ = some (.slice (some ⟨b, 0, none⟩) m c) := fun w1 hC => by
      have := cell_of (h.keep hC).at_.cell 0 rfl
      rw [e1] at this
      exact this
    have HE := Lib.hid e1
    clear h hU hn h0  hT hm hb e1 e2
    go_enter Try.func48, Try.ntmps48
    go_wp2_with fail
    refine hf.mono ?_
    rintro e w1 ⟨rfl, rfl⟩
    have hmv := hmv _ ((Chg.refl _ w).drew)
    have hc0 := hc0 _ ((Chg.refl _ w).drew)
    clear hf
    go_wp2_with fail
    refine J.wp_region_seq (fun W => W.cell? ⟨g, 0, none⟩ = some (.slice (some ⟨b, 0, none⟩) m c)) [(0, 0), (1, 0), (2, 0), (3, 0), (4, 0), (5, 0), (6, 0), (7, 0), (8, 0), (9, 0), (10, 0), (11, 1), (12, 0)] (by kernel_rfl) (by kernel_rfl) (by kernel_rfl) hc0 ?_
    iterate 11 (apply J.look (by rfl) (by rfl); (focus (intro W hW; go_simp; exact HasV.val rfl)); simp only [Act.put, List.setIfInBounds_toArray, List.set_cons_zero, List.set_cons_succ])
    refine J.link (fun v W => v = .int .i64 T.2 ∧ Stp 79 82 94 S.hd2 w W g V L T.1) (by rfl) (by rfl) ?_ (fun v W hR => by
      obtain ⟨L', hL, _⟩ := hR.2
      have := cell_of hL.at_.cell 0 rfl
      rw [HE.out] at this
      exact this) ?_
    · go_simp
      refine J.HasR.call (hmv.mono ?_)
      rintro e W ⟨rfl, hS⟩
      exact ⟨_, rfl, rfl, hS⟩
    rintro v W ⟨rfl, hS⟩
    have HS := Lib.hid hS
    clear hS hmv hc0
    simp only [Act.put, List.setIfInBounds_toArray, List.set_cons_zero, List.set_cons_succ]
    apply J.look (by rfl) (by rfl); (focus (intro W hW; go_simp; exact HasV.val rfl)); simp only [Act.put, List.setIfInBounds_toArray, List.set_cons_zero, List.set_cons_succ]
    refine J.fin ?_
    go_wp2
    go_ret
    exact ⟨rfl, HS.out⟩
set_option maxHeartbeats 1000000 in
theorem rpay_any {w : World} {g : Nat} {V : Value} {L : List Row} {s : S} (h : LS 79 82 94 S.hd2 w g V L s) (hU : s.U) (a n : Int) (hn : U64 n) :
    Calls Try.prog 50 #[.pointer (some ⟨g, 0, none⟩), .int .i64 a, .int .u64 n] w fun e w' => e = .returned (.int .i64 (s.pay a n).2) ∧ Stp 79 82 94 S.hd2 w w' g V L (s.pay a n).1 := by
  unfold S.pay
  by_cases h0 : s.bad a
  · simp only [if_pos h0]
    have hf := there_no h h0
    have HL := Lib.hid h
    clear h hU hn h0
    go_enter Try.func50, Try.ntmps50
    go_wp2_with fail
    refine hf.mono ?_
    rintro e w1 ⟨rfl, rfl⟩
    go_wp2
    go_ret
    exact ⟨rfl, Stp.refl HL.out (Chg.refl _ _)⟩
  · simp only [if_neg h0]
    have hf := there_yes h h0
    obtain ⟨an, rfl⟩ : ∃ m : Nat, a = (m : Int) := ⟨a.toNat, by unfold S.bad at h0; omega⟩
    have la : an < s.acc.length := by unfold S.bad at h0; omega
    simp only [Int.toNat_natCast]
    obtain ⟨b, c, cur, e1, e2, e3, _⟩ := h.at_.acc (i := an) (by rw [h.len]; exact la)
    have hb : ∀ i, i < L.length → V.ownBlock = some b := fun _ _ => e2
    have hmv : ∀ w1, Chg (fun _ => False) w w1 → Calls Try.prog 65 #[.pointer (some (adr g b .pot)), .pointer (some (adr g b (.acc an 0))), .int .u64 n] w1 fun e w' => e = .returned (.int .i64 (s.mv .pot (.acc an 0) n).2) ∧ Stp 79 82 94 S.hd2 w w' g V L (s.mv .pot (.acc an 0) n).1 := by
      intro w1 hC
      obtain ⟨k1, k2⟩ := (h.keep hC).get hds2 (P := .pot) trivial hb
      obtain ⟨k3, k4⟩ := (h.keep hC).get hds2 (P := (.acc an 0)) ⟨la, by omega⟩ hb
      refine (rmove_any _ _ _ _ n w1 k1 k3 k2 k4 (hU .pot trivial) hn).mono ?_
      intro e w' hp
      obtain ⟨r1, r2⟩ := mv_post (P := .pot) (Q := (.acc an 0)) hds2 (h.keep hC) hb trivial ⟨la, by omega⟩ hp
      exact ⟨r1, Stp.after hC r2⟩
    simp only [adr] at hmv
    obtain ⟨T, hT⟩ : ∃ T, T = s.mv .pot (.acc an 0) n := ⟨_, rfl⟩
    rw [← hT] at hmv ⊢
    obtain ⟨m, hm⟩ : ∃ m, m = L.length := ⟨_, rfl⟩
    rw [← hm] at e1 e3
    rw [← h.len, ← hm] at la
    have hc0 : ∀ w1, Chg (fun _ => False) w w1 → w1.cell? ⟨g, 0, none⟩ = some (.slice (some ⟨b, 0, none⟩) m c) := fun w1 hC => by
      have := cell_of (h.keep hC).at_.cell 0 rfl
      rw [e1] at this
      exact this
    have HE := Lib.hid e1
    clear h hU hn h0  hT hm hb e1 e2
    go_enter Try.func50, Try.ntmps50
    go_wp2_with fail
    refine hf.mono ?_
    rintro e w1 ⟨rfl, rfl⟩
    have hmv := hmv _ ((Chg.refl _ w).drew)
    have hc0 := hc0 _ ((Chg.refl _ w).drew)
    clear hf
    go_wp2_with fail
    refine J.wp_region_seq (fun W => W.cell? ⟨g, 0, none⟩ = some (.slice (some ⟨b, 0, none⟩) m c)) [(0, 0), (1, 0), (2, 0), (3, 0), (4, 0), (5, 0), (6, 0), (7, 0), (8, 0), (9, 0), (10, 0), (11, 1), (12, 0)] (by kernel_rfl) (by kernel_rfl) (by kernel_rfl) hc0 ?_
    iterate 11 (apply J.look (by rfl) (by rfl); (focus (intro W hW; go_simp; exact HasV.val rfl)); simp only [Act.put, List.setIfInBounds_toArray, List.set_cons_zero, List.set_cons_succ])
    refine J.link (fun v W => v = .int .i64 T.2 ∧ Stp 79 82 94 S.hd2 w W g V L T.1) (by rfl) (by rfl) ?_ (fun v W hR => by
      obtain ⟨L', hL, _⟩ := hR.2
      have := cell_of hL.at_.cell 0 rfl
      rw [HE.out] at this
      exact this) ?_
    · go_simp
      refine J.HasR.call (hmv.mono ?_)
      rintro e W ⟨rfl, hS⟩
      exact ⟨_, rfl, rfl, hS⟩
    rintro v W ⟨rfl, hS⟩
    have HS := Lib.hid hS
    clear hS hmv hc0
    simp only [Act.put, List.setIfInBounds_toArray, List.set_cons_zero, List.set_cons_succ]
    apply J.look (by rfl) (by rfl); (focus (intro W hW; go_simp; exact HasV.val rfl)); simp only [Act.put, List.setIfInBounds_toArray, List.set_cons_zero, List.set_cons_succ]
    refine J.fin ?_
    go_wp2
    go_ret
    exact ⟨rfl, HS.out⟩
set_option maxHeartbeats 1000000 in
theorem rkeep_any {w : World} {g : Nat} {V : Value} {L : List Row} {s : S} (h : LS 79 82 94 S.hd2 w g V L s) (hU : s.U) (n : Int) (hn : U64 n) :
    Calls Try.prog 51 #[.pointer (some ⟨g, 0, none⟩), .int .u64 n] w fun e w' => e = .returned (.int .i64 (s.keep n).2) ∧ Stp 79 82 94 S.hd2 w w' g V L (s.keep n).1 := by
  unfold S.keep
  obtain ⟨b, hb⟩ : ∃ b, ∀ i, i < L.length → V.ownBlock = some b := by
    cases e : V.ownBlock with
    | some b => exact ⟨b, fun _ _ => rfl⟩
    | none =>
      refine ⟨0, fun i hi => ?_⟩
      obtain ⟨b, c, cur, e1, e2, _⟩ := h.at_.acc hi
      rw [e] at e2
      cases e2
  have hmv : ∀ w1, Chg (fun _ => False) w w1 → Calls Try.prog 65 #[.pointer (some (adr g b .pot)), .pointer (some (adr g b .tre)), .int .u64 n] w1 fun e w' => e = .returned (.int .i64 (s.mv .pot .tre n).2) ∧ Stp 79 82 94 S.hd2 w w' g V L (s.mv .pot .tre n).1 := by
    intro w1 hC
    obtain ⟨k1, k2⟩ := (h.keep hC).get hds2 (P := .pot) trivial hb
    obtain ⟨k3, k4⟩ := (h.keep hC).get hds2 (P := .tre) trivial hb
    refine (rmove_any _ _ _ _ n w1 k1 k3 k2 k4 (hU .pot trivial) hn).mono ?_
    intro e w' hp
    obtain ⟨r1, r2⟩ := mv_post (P := .pot) (Q := .tre) hds2 (h.keep hC) hb trivial trivial hp
    exact ⟨r1, Stp.after hC r2⟩
  simp only [adr] at hmv
  obtain ⟨T, hT⟩ : ∃ T, T = s.mv .pot .tre n := ⟨_, rfl⟩
  rw [← hT] at hmv ⊢
  have hmv := hmv w.drew ((Chg.refl _ w).drew)
  clear h hU hn hT hb
  go_enter Try.func51, Try.ntmps51
  go_wp2_with fail
  refine J.wp_region_seq (fun W => True) [(0, 0), (1, 0), (2, 0), (3, 0), (4, 0), (5, 0), (6, 0), (7, 1), (8, 0)] (by kernel_rfl) (by kernel_rfl) (by kernel_rfl) trivial ?_
  iterate 7 (apply J.look (by rfl) (by rfl); (focus (intro W hW; go_simp; exact HasV.val rfl)); simp only [Act.put, List.setIfInBounds_toArray, List.set_cons_zero, List.set_cons_succ])
  refine J.link (fun v W => v = .int .i64 T.2 ∧ Stp 79 82 94 S.hd2 w W g V L T.1) (by rfl) (by rfl) ?_ (fun v W hR => trivial) ?_
  · go_simp
    refine J.HasR.call (hmv.mono ?_)
    rintro e W ⟨rfl, hS⟩
    exact ⟨_, rfl, rfl, hS⟩
  rintro v W ⟨rfl, hS⟩
  have HS := Lib.hid hS
  clear hS hmv
  simp only [Act.put, List.setIfInBounds_toArray, List.set_cons_zero, List.set_cons_succ]
  apply J.look (by rfl) (by rfl); (focus (intro W hW; go_simp; exact HasV.val rfl)); simp only [Act.put, List.setIfInBounds_toArray, List.set_cons_zero, List.set_cons_succ]
  refine J.fin ?_
  go_wp2
  go_ret
  exact ⟨rfl, HS.out⟩
end Go.Proofs.Ytpndkelbchjkiaa
