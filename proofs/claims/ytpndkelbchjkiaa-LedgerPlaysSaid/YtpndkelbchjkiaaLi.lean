/- The ledger's methods that move an amount. -/
import Derived.Test.YtpndkelbchjkiaaLh
import Derived.Test.YtpndkelbchjkiaaRj
set_option linter.unusedVariables false
set_option linter.unusedSimpArgs false
namespace Go.Proofs.Ytpndkelbchjkiaa
open Go.RowKit Go.Ps
theorem mv_post {tG tA tC : TypeId} {w w' : World} {g b : Nat} {V : Value} {L : List Row} {s : S} {hd : S → List Value} {P Q : Pc} {n : Int} {e : Ending} (hh : Hds hd) (h : LS tG tA tC hd w g V L s) (hb : ∀ i, i < L.length → V.ownBlock = some b) (hP : s.ok P) (hQ : s.ok Q) (hm : MovePost (adr g b P) (adr g b Q) (s.get P) n w e w') :
    e = .returned (.int .i64 (s.mv P Q n).2) ∧ Stp tG tA tC hd w w' g V L (s.mv P Q n).1 := by
  unfold MovePost at hm
  unfold S.mv
  by_cases h0 : s.get P < n
  · rw [if_pos h0] at hm ⊢
    obtain ⟨rfl, rfl⟩ := hm
    exact ⟨rfl, Stp.refl h (Chg.refl _ _)⟩
  · rw [if_neg h0] at hm ⊢
    obtain ⟨rfl, y, hy, rfl⟩ := hm
    have h1 := Stp.put hh h hP hb (s.get P - n)
    refine ⟨rfl, h1.then fun L' hL hlen => ?_⟩
    have hb' : ∀ i, i < L'.length → V.ownBlock = some b := fun i hi => hb i (by omega)
    have hQ' := put_ok s (s.get P - n) P Q hQ
    obtain ⟨k1, _⟩ := hL.get hh hQ' hb'
    rw [hy] at k1
    simp only [Option.some.injEq, Value.int.injEq, true_and] at k1
    subst k1
    exact Stp.put hh hL hQ' hb' _
def S.U (s : S) : Prop := ∀ P, s.ok P → U64 (s.get P)
abbrev S.bad (s : S) (id : Int) : Prop := id < 0 ∨ (s.acc.length : Int) ≤ id
theorem hds : Hds S.hd := .inl rfl
theorem find_one {w : World} {g : Nat} {V : Value} {L : List Row} {s : S} (h : LS 64 34 38 S.hd w g V L s) (id : Int) :
    Calls Try.prog 31 #[.pointer (some ⟨g, 0, none⟩), .slice (some ⟨w.heap.size, 0, none⟩) 1 1] (w.alloc (.cells #[.int .i64 id] 3)) fun e w' => e = .returned (.int .i64 (if s.bad id then 5 else 0)) ∧ Chg (fun _ => False) w w' := by
  obtain ⟨A, c, e1, _⟩ := h.at_.rows.form
  have hC : Chg (fun _ => False) w (w.alloc (.cells #[.int .i64 id] 3)) := (Chg.refl _ w).alloc _
  have hc := cell_of (h.keep hC).at_.cell 0 rfl
  rw [e1] at hc
  refine (find_any [id] A (some ⟨w.heap.size, 0, none⟩) g L.length c 1 (w.alloc (.cells #[.int .i64 id] 3)) hc (ReadsI.of_block (t := 3) (fr := (0, 0)) (heap_alloc_at _ _)) (by simp)).mono ?_
  rintro e w' ⟨rfl, hC2⟩
  refine ⟨?_, hC.trans hC2 (fun _ _ h => h)⟩
  rw [bidx_one, h.len]
  unfold S.bad
  by_cases h0 : id < 0 ∨ (s.acc.length : Int) ≤ id <;> simp [h0]
theorem find_two {w : World} {g : Nat} {V : Value} {L : List Row} {s : S} (h : LS 64 34 38 S.hd w g V L s) (id k : Int) :
    Calls Try.prog 31 #[.pointer (some ⟨g, 0, none⟩), .slice (some ⟨w.heap.size, 0, none⟩) 2 2] (w.alloc (.cells #[.int .i64 id, .int .i64 k] 3)) fun e w' => e = .returned (.int .i64 (if s.bad id ∨ s.bad k then 5 else 0)) ∧ Chg (fun _ => False) w w' := by
  obtain ⟨A, c, e1, _⟩ := h.at_.rows.form
  have hC : Chg (fun _ => False) w (w.alloc (.cells #[.int .i64 id, .int .i64 k] 3)) := (Chg.refl _ w).alloc _
  have hc := cell_of (h.keep hC).at_.cell 0 rfl
  rw [e1] at hc
  refine (find_any [id, k] A (some ⟨w.heap.size, 0, none⟩) g L.length c 2 (w.alloc (.cells #[.int .i64 id, .int .i64 k] 3)) hc (ReadsI.of_block (t := 3) (fr := (0, 0)) (heap_alloc_at _ _)) (by simp)).mono ?_
  rintro e w' ⟨rfl, hC2⟩
  refine ⟨?_, hC.trans hC2 (fun _ _ h => h)⟩
  simp only [bidx, h.len]
  unfold S.bad
  by_cases h0 : id < 0 ∨ (s.acc.length : Int) ≤ id <;> by_cases h1 : k < 0 ∨ (s.acc.length : Int) ≤ k <;> simp [h0, h1]
def S.bond (s : S) (a : Int) (n : Int) : S × Int := if s.bad a then (s, 5) else s.mv (.acc a.toNat 0) (.acc a.toNat 1) n
set_option maxHeartbeats 1000000 in
theorem bond_any {w : World} {g : Nat} {V : Value} {L : List Row} {s : S} (h : LS 64 34 38 S.hd w g V L s) (hU : s.U) (a n : Int) (hn : U64 n) :
    Calls Try.prog 10 #[.pointer (some ⟨g, 0, none⟩), .int .i64 a, .int .u64 n] w fun e w' => e = .returned (.int .i64 (s.bond a n).2) ∧ Stp 64 34 38 S.hd w w' g V L (s.bond a n).1 := by
  have hf := find_one h a
  unfold S.bond
  by_cases h0 : s.bad a
  · simp only [if_pos h0] at hf ⊢
    have HL := Lib.hid h
    clear h hU hn h0
    go_enter Try.func10, Try.ntmps10
    go_wp2_with fail
    refine hf.mono ?_
    rintro e w1 ⟨rfl, hC⟩
    go_wp2
    go_ret
    exact ⟨rfl, Stp.refl HL.out hC⟩
  · simp only [if_neg h0] at hf ⊢
    obtain ⟨an, rfl⟩ : ∃ m : Nat, a = (m : Int) := ⟨a.toNat, by unfold S.bad at h0; omega⟩
    have la : an < s.acc.length := by unfold S.bad at h0; omega
    simp only [Int.toNat_natCast]
    obtain ⟨b, c, cur, e1, e2, e3, _⟩ := h.at_.acc (i := an) (by rw [h.len]; exact la)
    have hb : ∀ i, i < L.length → V.ownBlock = some b := fun _ _ => e2
    have hmv : ∀ w1, Chg (fun _ => False) w w1 → Calls Try.prog 32 #[.pointer (some (adr g b (.acc an 0))), .pointer (some (adr g b (.acc an 1))), .int .u64 n] w1 fun e w' => e = .returned (.int .i64 (s.mv (.acc an 0) (.acc an 1) n).2) ∧ Stp 64 34 38 S.hd w w' g V L (s.mv (.acc an 0) (.acc an 1) n).1 := by
      intro w1 hC
      obtain ⟨k1, k2⟩ := (h.keep hC).get hds (P := (.acc an 0)) ⟨la, by omega⟩ hb
      obtain ⟨k3, k4⟩ := (h.keep hC).get hds (P := (.acc an 1)) ⟨la, by omega⟩ hb
      refine (move_any _ _ _ _ n w1 k1 k3 k2 k4 (hU (.acc an 0) ⟨la, by omega⟩) hn).mono ?_
      intro e w' hp
      obtain ⟨r1, r2⟩ := mv_post (P := (.acc an 0)) (Q := (.acc an 1)) hds (h.keep hC) hb ⟨la, by omega⟩ ⟨la, by omega⟩ hp
      exact ⟨r1, Stp.after hC r2⟩
    simp only [adr] at hmv
    obtain ⟨T, hT⟩ : ∃ T, T = s.mv (.acc an 0) (.acc an 1) n := ⟨_, rfl⟩
    rw [← hT] at hmv ⊢
    obtain ⟨m, hm⟩ : ∃ m, m = L.length := ⟨_, rfl⟩
    rw [← hm] at e1 e3
    rw [← h.len, ← hm] at la
    have hc0 : ∀ w1, Chg (fun _ => False) w w1 → w1.cell? ⟨g, 0, none⟩ = some (.slice (some ⟨b, 0, none⟩) m c) := fun w1 hC => by
      have := cell_of (h.keep hC).at_.cell 0 rfl
      rw [e1] at this
      exact this
    have HE := Lib.hid e1
    clear h hU hn h0  hT hm hb e1 e2
    go_enter Try.func10, Try.ntmps10
    go_wp2_with fail
    refine hf.mono ?_
    rintro e w1 ⟨rfl, hC⟩
    have hmv := hmv w1.drew hC.drew
    have hc0 := hc0 w1.drew hC.drew
    have HC := Lib.hid hC.drew
    clear hf hC
    go_wp2_with fail
    refine J.wp_region_seq (fun W => W.cell? ⟨g, 0, none⟩ = some (.slice (some ⟨b, 0, none⟩) m c)) [(0, 0), (1, 0), (2, 0), (3, 0), (4, 0), (5, 0), (6, 0), (7, 0), (8, 0), (9, 0), (10, 0), (11, 0), (12, 0), (13, 0), (14, 0), (15, 1), (16, 0)] (by kernel_rfl) (by kernel_rfl) (by kernel_rfl) hc0 ?_
    iterate 15 (apply J.look (by rfl) (by rfl); (focus (intro W hW; go_simp; exact HasV.val rfl)); simp only [Act.put, List.setIfInBounds_toArray, List.set_cons_zero, List.set_cons_succ])
    refine J.link (fun v W => v = .int .i64 T.2 ∧ Stp 64 34 38 S.hd w W g V L T.1) (by rfl) (by rfl) ?_ (fun v W hR => by
      obtain ⟨L', hL, _⟩ := hR.2
      have := cell_of hL.at_.cell 0 rfl
      rw [HE.out] at this
      exact this) ?_
    · go_simp
      refine J.HasR.call (hmv.mono ?_)
      rintro e W ⟨rfl, hS⟩
      exact ⟨_, rfl, rfl, hS⟩
    rintro v W ⟨rfl, hS⟩
    have HS := Lib.hid hS
    clear hS hmv hc0
    simp only [Act.put, List.setIfInBounds_toArray, List.set_cons_zero, List.set_cons_succ]
    apply J.look (by rfl) (by rfl); (focus (intro W hW; go_simp; exact HasV.val rfl)); simp only [Act.put, List.setIfInBounds_toArray, List.set_cons_zero, List.set_cons_succ]
    refine J.fin ?_
    go_wp2
    go_ret
    exact ⟨rfl, HS.out⟩
def S.deposit (s : S) (a : Int) (n : Int) : S × Int := if s.bad a then (s, 5) else s.mv (.acc a.toNat 0) (.acc a.toNat 2) n
set_option maxHeartbeats 1000000 in
theorem deposit_any {w : World} {g : Nat} {V : Value} {L : List Row} {s : S} (h : LS 64 34 38 S.hd w g V L s) (hU : s.U) (a n : Int) (hn : U64 n) :
    Calls Try.prog 22 #[.pointer (some ⟨g, 0, none⟩), .int .i64 a, .int .u64 n] w fun e w' => e = .returned (.int .i64 (s.deposit a n).2) ∧ Stp 64 34 38 S.hd w w' g V L (s.deposit a n).1 := by
  have hf := find_one h a
  unfold S.deposit
  by_cases h0 : s.bad a
  · simp only [if_pos h0] at hf ⊢
    have HL := Lib.hid h
    clear h hU hn h0
    go_enter Try.func22, Try.ntmps22
    go_wp2_with fail
    refine hf.mono ?_
    rintro e w1 ⟨rfl, hC⟩
    go_wp2
    go_ret
    exact ⟨rfl, Stp.refl HL.out hC⟩
  · simp only [if_neg h0] at hf ⊢
    obtain ⟨an, rfl⟩ : ∃ m : Nat, a = (m : Int) := ⟨a.toNat, by unfold S.bad at h0; omega⟩
    have la : an < s.acc.length := by unfold S.bad at h0; omega
    simp only [Int.toNat_natCast]
    obtain ⟨b, c, cur, e1, e2, e3, _⟩ := h.at_.acc (i := an) (by rw [h.len]; exact la)
    have hb : ∀ i, i < L.length → V.ownBlock = some b := fun _ _ => e2
    have hmv : ∀ w1, Chg (fun _ => False) w w1 → Calls Try.prog 32 #[.pointer (some (adr g b (.acc an 0))), .pointer (some (adr g b (.acc an 2))), .int .u64 n] w1 fun e w' => e = .returned (.int .i64 (s.mv (.acc an 0) (.acc an 2) n).2) ∧ Stp 64 34 38 S.hd w w' g V L (s.mv (.acc an 0) (.acc an 2) n).1 := by
      intro w1 hC
      obtain ⟨k1, k2⟩ := (h.keep hC).get hds (P := (.acc an 0)) ⟨la, by omega⟩ hb
      obtain ⟨k3, k4⟩ := (h.keep hC).get hds (P := (.acc an 2)) ⟨la, by omega⟩ hb
      refine (move_any _ _ _ _ n w1 k1 k3 k2 k4 (hU (.acc an 0) ⟨la, by omega⟩) hn).mono ?_
      intro e w' hp
      obtain ⟨r1, r2⟩ := mv_post (P := (.acc an 0)) (Q := (.acc an 2)) hds (h.keep hC) hb ⟨la, by omega⟩ ⟨la, by omega⟩ hp
      exact ⟨r1, Stp.after hC r2⟩
    simp only [adr] at hmv
    obtain ⟨T, hT⟩ : ∃ T, T = s.mv (.acc an 0) (.acc an 2) n := ⟨_, rfl⟩
    rw [← hT] at hmv ⊢
    obtain ⟨m, hm⟩ : ∃ m, m = L.length := ⟨_, rfl⟩
    rw [← hm] at e1 e3
    rw [← h.len, ← hm] at la
    have hc0 : ∀ w1, Chg (fun _ => False) w w1 → w1.cell? ⟨g, 0, none⟩ = some (.slice (some ⟨b, 0, none⟩) m c) := fun w1 hC => by
      have := cell_of (h.keep hC).at_.cell 0 rfl
      rw [e1] at this
      exact this
    have HE := Lib.hid e1
    clear h hU hn h0  hT hm hb e1 e2
    go_enter Try.func22, Try.ntmps22
    go_wp2_with fail
    refine hf.mono ?_
    rintro e w1 ⟨rfl, hC⟩
    have hmv := hmv w1.drew hC.drew
    have hc0 := hc0 w1.drew hC.drew
    have HC := Lib.hid hC.drew
    clear hf hC
    go_wp2_with fail
    refine J.wp_region_seq (fun W => W.cell? ⟨g, 0, none⟩ = some (.slice (some ⟨b, 0, none⟩) m c)) [(0, 0), (1, 0), (2, 0), (3, 0), (4, 0), (5, 0), (6, 0), (7, 0), (8, 0), (9, 0), (10, 0), (11, 0), (12, 0), (13, 0), (14, 0), (15, 1), (16, 0)] (by kernel_rfl) (by kernel_rfl) (by kernel_rfl) hc0 ?_
    iterate 15 (apply J.look (by rfl) (by rfl); (focus (intro W hW; go_simp; exact HasV.val rfl)); simp only [Act.put, List.setIfInBounds_toArray, List.set_cons_zero, List.set_cons_succ])
    refine J.link (fun v W => v = .int .i64 T.2 ∧ Stp 64 34 38 S.hd w W g V L T.1) (by rfl) (by rfl) ?_ (fun v W hR => by
      obtain ⟨L', hL, _⟩ := hR.2
      have := cell_of hL.at_.cell 0 rfl
      rw [HE.out] at this
      exact this) ?_
    · go_simp
      refine J.HasR.call (hmv.mono ?_)
      rintro e W ⟨rfl, hS⟩
      exact ⟨_, rfl, rfl, hS⟩
    rintro v W ⟨rfl, hS⟩
    have HS := Lib.hid hS
    clear hS hmv hc0
    simp only [Act.put, List.setIfInBounds_toArray, List.set_cons_zero, List.set_cons_succ]
    apply J.look (by rfl) (by rfl); (focus (intro W hW; go_simp; exact HasV.val rfl)); simp only [Act.put, List.setIfInBounds_toArray, List.set_cons_zero, List.set_cons_succ]
    refine J.fin ?_
    go_wp2
    go_ret
    exact ⟨rfl, HS.out⟩
def S.release (s : S) (a : Int) (n : Int) : S × Int := if s.bad a then (s, 5) else s.mv (.acc a.toNat 2) (.acc a.toNat 0) n
set_option maxHeartbeats 1000000 in
theorem release_any {w : World} {g : Nat} {V : Value} {L : List Row} {s : S} (h : LS 64 34 38 S.hd w g V L s) (hU : s.U) (a n : Int) (hn : U64 n) :
    Calls Try.prog 23 #[.pointer (some ⟨g, 0, none⟩), .int .i64 a, .int .u64 n] w fun e w' => e = .returned (.int .i64 (s.release a n).2) ∧ Stp 64 34 38 S.hd w w' g V L (s.release a n).1 := by
  have hf := find_one h a
  unfold S.release
  by_cases h0 : s.bad a
  · simp only [if_pos h0] at hf ⊢
    have HL := Lib.hid h
    clear h hU hn h0
    go_enter Try.func23, Try.ntmps23
    go_wp2_with fail
    refine hf.mono ?_
    rintro e w1 ⟨rfl, hC⟩
    go_wp2
    go_ret
    exact ⟨rfl, Stp.refl HL.out hC⟩
  · simp only [if_neg h0] at hf ⊢
    obtain ⟨an, rfl⟩ : ∃ m : Nat, a = (m : Int) := ⟨a.toNat, by unfold S.bad at h0; omega⟩
    have la : an < s.acc.length := by unfold S.bad at h0; omega
    simp only [Int.toNat_natCast]
    obtain ⟨b, c, cur, e1, e2, e3, _⟩ := h.at_.acc (i := an) (by rw [h.len]; exact la)
    have hb : ∀ i, i < L.length → V.ownBlock = some b := fun _ _ => e2
    have hmv : ∀ w1, Chg (fun _ => False) w w1 → Calls Try.prog 32 #[.pointer (some (adr g b (.acc an 2))), .pointer (some (adr g b (.acc an 0))), .int .u64 n] w1 fun e w' => e = .returned (.int .i64 (s.mv (.acc an 2) (.acc an 0) n).2) ∧ Stp 64 34 38 S.hd w w' g V L (s.mv (.acc an 2) (.acc an 0) n).1 := by
      intro w1 hC
      obtain ⟨k1, k2⟩ := (h.keep hC).get hds (P := (.acc an 2)) ⟨la, by omega⟩ hb
      obtain ⟨k3, k4⟩ := (h.keep hC).get hds (P := (.acc an 0)) ⟨la, by omega⟩ hb
      refine (move_any _ _ _ _ n w1 k1 k3 k2 k4 (hU (.acc an 2) ⟨la, by omega⟩) hn).mono ?_
      intro e w' hp
      obtain ⟨r1, r2⟩ := mv_post (P := (.acc an 2)) (Q := (.acc an 0)) hds (h.keep hC) hb ⟨la, by omega⟩ ⟨la, by omega⟩ hp
      exact ⟨r1, Stp.after hC r2⟩
    simp only [adr] at hmv
    obtain ⟨T, hT⟩ : ∃ T, T = s.mv (.acc an 2) (.acc an 0) n := ⟨_, rfl⟩
    rw [← hT] at hmv ⊢
    obtain ⟨m, hm⟩ : ∃ m, m = L.length := ⟨_, rfl⟩
    rw [← hm] at e1 e3
    rw [← h.len, ← hm] at la
    have hc0 : ∀ w1, Chg (fun _ => False) w w1 → w1.cell? ⟨g, 0, none⟩ = some (.slice (some ⟨b, 0, none⟩) m c) := fun w1 hC => by
      have := cell_of (h.keep hC).at_.cell 0 rfl
      rw [e1] at this
      exact this
    have HE := Lib.hid e1
    clear h hU hn h0  hT hm hb e1 e2
    go_enter Try.func23, Try.ntmps23
    go_wp2_with fail
    refine hf.mono ?_
    rintro e w1 ⟨rfl, hC⟩
    have hmv := hmv w1.drew hC.drew
    have hc0 := hc0 w1.drew hC.drew
    have HC := Lib.hid hC.drew
    clear hf hC
    go_wp2_with fail
    refine J.wp_region_seq (fun W => W.cell? ⟨g, 0, none⟩ = some (.slice (some ⟨b, 0, none⟩) m c)) [(0, 0), (1, 0), (2, 0), (3, 0), (4, 0), (5, 0), (6, 0), (7, 0), (8, 0), (9, 0), (10, 0), (11, 0), (12, 0), (13, 0), (14, 0), (15, 1), (16, 0)] (by kernel_rfl) (by kernel_rfl) (by kernel_rfl) hc0 ?_
    iterate 15 (apply J.look (by rfl) (by rfl); (focus (intro W hW; go_simp; exact HasV.val rfl)); simp only [Act.put, List.setIfInBounds_toArray, List.set_cons_zero, List.set_cons_succ])
    refine J.link (fun v W => v = .int .i64 T.2 ∧ Stp 64 34 38 S.hd w W g V L T.1) (by rfl) (by rfl) ?_ (fun v W hR => by
      obtain ⟨L', hL, _⟩ := hR.2
      have := cell_of hL.at_.cell 0 rfl
      rw [HE.out] at this
      exact this) ?_
    · go_simp
      refine J.HasR.call (hmv.mono ?_)
      rintro e W ⟨rfl, hS⟩
      exact ⟨_, rfl, rfl, hS⟩
    rintro v W ⟨rfl, hS⟩
    have HS := Lib.hid hS
    clear hS hmv hc0
    simp only [Act.put, List.setIfInBounds_toArray, List.set_cons_zero, List.set_cons_succ]
    apply J.look (by rfl) (by rfl); (focus (intro W hW; go_simp; exact HasV.val rfl)); simp only [Act.put, List.setIfInBounds_toArray, List.set_cons_zero, List.set_cons_succ]
    refine J.fin ?_
    go_wp2
    go_ret
    exact ⟨rfl, HS.out⟩
def S.forfeit (s : S) (a : Int) (n : Int) : S × Int := if s.bad a then (s, 5) else s.mv (.acc a.toNat 2) .tre n
set_option maxHeartbeats 1000000 in
theorem forfeit_any {w : World} {g : Nat} {V : Value} {L : List Row} {s : S} (h : LS 64 34 38 S.hd w g V L s) (hU : s.U) (a n : Int) (hn : U64 n) :
    Calls Try.prog 24 #[.pointer (some ⟨g, 0, none⟩), .int .i64 a, .int .u64 n] w fun e w' => e = .returned (.int .i64 (s.forfeit a n).2) ∧ Stp 64 34 38 S.hd w w' g V L (s.forfeit a n).1 := by
  have hf := find_one h a
  unfold S.forfeit
  by_cases h0 : s.bad a
  · simp only [if_pos h0] at hf ⊢
    have HL := Lib.hid h
    clear h hU hn h0
    go_enter Try.func24, Try.ntmps24
    go_wp2_with fail
    refine hf.mono ?_
    rintro e w1 ⟨rfl, hC⟩
    go_wp2
    go_ret
    exact ⟨rfl, Stp.refl HL.out hC⟩
  · simp only [if_neg h0] at hf ⊢
    obtain ⟨an, rfl⟩ : ∃ m : Nat, a = (m : Int) := ⟨a.toNat, by unfold S.bad at h0; omega⟩
    have la : an < s.acc.length := by unfold S.bad at h0; omega
    simp only [Int.toNat_natCast]
    obtain ⟨b, c, cur, e1, e2, e3, _⟩ := h.at_.acc (i := an) (by rw [h.len]; exact la)
    have hb : ∀ i, i < L.length → V.ownBlock = some b := fun _ _ => e2
    have hmv : ∀ w1, Chg (fun _ => False) w w1 → Calls Try.prog 32 #[.pointer (some (adr g b (.acc an 2))), .pointer (some (adr g b .tre)), .int .u64 n] w1 fun e w' => e = .returned (.int .i64 (s.mv (.acc an 2) .tre n).2) ∧ Stp 64 34 38 S.hd w w' g V L (s.mv (.acc an 2) .tre n).1 := by
      intro w1 hC
      obtain ⟨k1, k2⟩ := (h.keep hC).get hds (P := (.acc an 2)) ⟨la, by omega⟩ hb
      obtain ⟨k3, k4⟩ := (h.keep hC).get hds (P := .tre) trivial hb
      refine (move_any _ _ _ _ n w1 k1 k3 k2 k4 (hU (.acc an 2) ⟨la, by omega⟩) hn).mono ?_
      intro e w' hp
      obtain ⟨r1, r2⟩ := mv_post (P := (.acc an 2)) (Q := .tre) hds (h.keep hC) hb ⟨la, by omega⟩ trivial hp
      exact ⟨r1, Stp.after hC r2⟩
    simp only [adr] at hmv
    obtain ⟨T, hT⟩ : ∃ T, T = s.mv (.acc an 2) .tre n := ⟨_, rfl⟩
    rw [← hT] at hmv ⊢
    obtain ⟨m, hm⟩ : ∃ m, m = L.length := ⟨_, rfl⟩
    rw [← hm] at e1 e3
    rw [← h.len, ← hm] at la
    have hc0 : ∀ w1, Chg (fun _ => False) w w1 → w1.cell? ⟨g, 0, none⟩ = some (.slice (some ⟨b, 0, none⟩) m c) := fun w1 hC => by
      have := cell_of (h.keep hC).at_.cell 0 rfl
      rw [e1] at this
      exact this
    have HE := Lib.hid e1
    clear h hU hn h0  hT hm hb e1 e2
    go_enter Try.func24, Try.ntmps24
    go_wp2_with fail
    refine hf.mono ?_
    rintro e w1 ⟨rfl, hC⟩
    have hmv := hmv w1.drew hC.drew
    have hc0 := hc0 w1.drew hC.drew
    have HC := Lib.hid hC.drew
    clear hf hC
    go_wp2_with fail
    refine J.wp_region_seq (fun W => W.cell? ⟨g, 0, none⟩ = some (.slice (some ⟨b, 0, none⟩) m c)) [(0, 0), (1, 0), (2, 0), (3, 0), (4, 0), (5, 0), (6, 0), (7, 0), (8, 0), (9, 0), (10, 0), (11, 1), (12, 0)] (by kernel_rfl) (by kernel_rfl) (by kernel_rfl) hc0 ?_
    iterate 11 (apply J.look (by rfl) (by rfl); (focus (intro W hW; go_simp; exact HasV.val rfl)); simp only [Act.put, List.setIfInBounds_toArray, List.set_cons_zero, List.set_cons_succ])
    refine J.link (fun v W => v = .int .i64 T.2 ∧ Stp 64 34 38 S.hd w W g V L T.1) (by rfl) (by rfl) ?_ (fun v W hR => by
      obtain ⟨L', hL, _⟩ := hR.2
      have := cell_of hL.at_.cell 0 rfl
      rw [HE.out] at this
      exact this) ?_
    · go_simp
      refine J.HasR.call (hmv.mono ?_)
      rintro e W ⟨rfl, hS⟩
      exact ⟨_, rfl, rfl, hS⟩
    rintro v W ⟨rfl, hS⟩
    have HS := Lib.hid hS
    clear hS hmv hc0
    simp only [Act.put, List.setIfInBounds_toArray, List.set_cons_zero, List.set_cons_succ]
    apply J.look (by rfl) (by rfl); (focus (intro W hW; go_simp; exact HasV.val rfl)); simp only [Act.put, List.setIfInBounds_toArray, List.set_cons_zero, List.set_cons_succ]
    refine J.fin ?_
    go_wp2
    go_ret
    exact ⟨rfl, HS.out⟩
def S.pay (s : S) (a : Int) (n : Int) : S × Int := if s.bad a then (s, 5) else s.mv .pot (.acc a.toNat 0) n
set_option maxHeartbeats 1000000 in
theorem pay_any {w : World} {g : Nat} {V : Value} {L : List Row} {s : S} (h : LS 64 34 38 S.hd w g V L s) (hU : s.U) (a n : Int) (hn : U64 n) :
    Calls Try.prog 25 #[.pointer (some ⟨g, 0, none⟩), .int .i64 a, .int .u64 n] w fun e w' => e = .returned (.int .i64 (s.pay a n).2) ∧ Stp 64 34 38 S.hd w w' g V L (s.pay a n).1 := by
  have hf := find_one h a
  unfold S.pay
  by_cases h0 : s.bad a
  · simp only [if_pos h0] at hf ⊢
    have HL := Lib.hid h
    clear h hU hn h0
    go_enter Try.func25, Try.ntmps25
    go_wp2_with fail
    refine hf.mono ?_
    rintro e w1 ⟨rfl, hC⟩
    go_wp2
    go_ret
    exact ⟨rfl, Stp.refl HL.out hC⟩
  · simp only [if_neg h0] at hf ⊢
    obtain ⟨an, rfl⟩ : ∃ m : Nat, a = (m : Int) := ⟨a.toNat, by unfold S.bad at h0; omega⟩
    have la : an < s.acc.length := by unfold S.bad at h0; omega
    simp only [Int.toNat_natCast]
    obtain ⟨b, c, cur, e1, e2, e3, _⟩ := h.at_.acc (i := an) (by rw [h.len]; exact la)
    have hb : ∀ i, i < L.length → V.ownBlock = some b := fun _ _ => e2
    have hmv : ∀ w1, Chg (fun _ => False) w w1 → Calls Try.prog 32 #[.pointer (some (adr g b .pot)), .pointer (some (adr g b (.acc an 0))), .int .u64 n] w1 fun e w' => e = .returned (.int .i64 (s.mv .pot (.acc an 0) n).2) ∧ Stp 64 34 38 S.hd w w' g V L (s.mv .pot (.acc an 0) n).1 := by
      intro w1 hC
      obtain ⟨k1, k2⟩ := (h.keep hC).get hds (P := .pot) trivial hb
      obtain ⟨k3, k4⟩ := (h.keep hC).get hds (P := (.acc an 0)) ⟨la, by omega⟩ hb
      refine (move_any _ _ _ _ n w1 k1 k3 k2 k4 (hU .pot trivial) hn).mono ?_
      intro e w' hp
      obtain ⟨r1, r2⟩ := mv_post (P := .pot) (Q := (.acc an 0)) hds (h.keep hC) hb trivial ⟨la, by omega⟩ hp
      exact ⟨r1, Stp.after hC r2⟩
    simp only [adr] at hmv
    obtain ⟨T, hT⟩ : ∃ T, T = s.mv .pot (.acc an 0) n := ⟨_, rfl⟩
    rw [← hT] at hmv ⊢
    obtain ⟨m, hm⟩ : ∃ m, m = L.length := ⟨_, rfl⟩
    rw [← hm] at e1 e3
    rw [← h.len, ← hm] at la
    have hc0 : ∀ w1, Chg (fun _ => False) w w1 → w1.cell? ⟨g, 0, none⟩ = some (.slice (some ⟨b, 0, none⟩) m c) := fun w1 hC => by
      have := cell_of (h.keep hC).at_.cell 0 rfl
      rw [e1] at this
      exact this
    have HE := Lib.hid e1
    clear h hU hn h0  hT hm hb e1 e2
    go_enter Try.func25, Try.ntmps25
    go_wp2_with fail
    refine hf.mono ?_
    rintro e w1 ⟨rfl, hC⟩
    have hmv := hmv w1.drew hC.drew
    have hc0 := hc0 w1.drew hC.drew
    have HC := Lib.hid hC.drew
    clear hf hC
    go_wp2_with fail
    refine J.wp_region_seq (fun W => W.cell? ⟨g, 0, none⟩ = some (.slice (some ⟨b, 0, none⟩) m c)) [(0, 0), (1, 0), (2, 0), (3, 0), (4, 0), (5, 0), (6, 0), (7, 0), (8, 0), (9, 0), (10, 0), (11, 1), (12, 0)] (by kernel_rfl) (by kernel_rfl) (by kernel_rfl) hc0 ?_
    iterate 11 (apply J.look (by rfl) (by rfl); (focus (intro W hW; go_simp; exact HasV.val rfl)); simp only [Act.put, List.setIfInBounds_toArray, List.set_cons_zero, List.set_cons_succ])
    refine J.link (fun v W => v = .int .i64 T.2 ∧ Stp 64 34 38 S.hd w W g V L T.1) (by rfl) (by rfl) ?_ (fun v W hR => by
      obtain ⟨L', hL, _⟩ := hR.2
      have := cell_of hL.at_.cell 0 rfl
      rw [HE.out] at this
      exact this) ?_
    · go_simp
      refine J.HasR.call (hmv.mono ?_)
      rintro e W ⟨rfl, hS⟩
      exact ⟨_, rfl, rfl, hS⟩
    rintro v W ⟨rfl, hS⟩
    have HS := Lib.hid hS
    clear hS hmv hc0
    simp only [Act.put, List.setIfInBounds_toArray, List.set_cons_zero, List.set_cons_succ]
    apply J.look (by rfl) (by rfl); (focus (intro W hW; go_simp; exact HasV.val rfl)); simp only [Act.put, List.setIfInBounds_toArray, List.set_cons_zero, List.set_cons_succ]
    refine J.fin ?_
    go_wp2
    go_ret
    exact ⟨rfl, HS.out⟩
def S.transfer (s : S) (a b : Int) (n : Int) : S × Int := if s.bad a ∨ s.bad b then (s, 5) else s.mv (.acc a.toNat 0) (.acc b.toNat 0) n
set_option maxHeartbeats 1000000 in
theorem transfer_any {w : World} {g : Nat} {V : Value} {L : List Row} {s : S} (h : LS 64 34 38 S.hd w g V L s) (hU : s.U) (a b n : Int) (hn : U64 n) :
    Calls Try.prog 21 #[.pointer (some ⟨g, 0, none⟩), .int .i64 a, .int .i64 b, .int .u64 n] w fun e w' => e = .returned (.int .i64 (s.transfer a b n).2) ∧ Stp 64 34 38 S.hd w w' g V L (s.transfer a b n).1 := by
  have hf := find_two h a b
  unfold S.transfer
  by_cases h0 : s.bad a ∨ s.bad b
  · simp only [if_pos h0] at hf ⊢
    have HL := Lib.hid h
    clear h hU hn h0
    go_enter Try.func21, Try.ntmps21
    go_wp2_with fail
    refine hf.mono ?_
    rintro e w1 ⟨rfl, hC⟩
    go_wp2
    go_ret
    exact ⟨rfl, Stp.refl HL.out hC⟩
  · simp only [if_neg h0] at hf ⊢
    obtain ⟨q0, q1⟩ := not_or.1 h0
    obtain ⟨an, rfl⟩ : ∃ m : Nat, a = (m : Int) := ⟨a.toNat, by unfold S.bad at q0; omega⟩
    have la : an < s.acc.length := by unfold S.bad at q0; omega
    obtain ⟨bn, rfl⟩ : ∃ m : Nat, b = (m : Int) := ⟨b.toNat, by unfold S.bad at q1; omega⟩
    have lb : bn < s.acc.length := by unfold S.bad at q1; omega
    simp only [Int.toNat_natCast]
    obtain ⟨b, c, cur, e1, e2, e3, _⟩ := h.at_.acc (i := an) (by rw [h.len]; exact la)
    have hb : ∀ i, i < L.length → V.ownBlock = some b := fun _ _ => e2
    have hmv : ∀ w1, Chg (fun _ => False) w w1 → Calls Try.prog 32 #[.pointer (some (adr g b (.acc an 0))), .pointer (some (adr g b (.acc bn 0))), .int .u64 n] w1 fun e w' => e = .returned (.int .i64 (s.mv (.acc an 0) (.acc bn 0) n).2) ∧ Stp 64 34 38 S.hd w w' g V L (s.mv (.acc an 0) (.acc bn 0) n).1 := by
      intro w1 hC
      obtain ⟨k1, k2⟩ := (h.keep hC).get hds (P := (.acc an 0)) ⟨la, by omega⟩ hb
      obtain ⟨k3, k4⟩ := (h.keep hC).get hds (P := (.acc bn 0)) ⟨lb, by omega⟩ hb
      refine (move_any _ _ _ _ n w1 k1 k3 k2 k4 (hU (.acc an 0) ⟨la, by omega⟩) hn).mono ?_
      intro e w' hp
      obtain ⟨r1, r2⟩ := mv_post (P := (.acc an 0)) (Q := (.acc bn 0)) hds (h.keep hC) hb ⟨la, by omega⟩ ⟨lb, by omega⟩ hp
      exact ⟨r1, Stp.after hC r2⟩
    simp only [adr] at hmv
    obtain ⟨T, hT⟩ : ∃ T, T = s.mv (.acc an 0) (.acc bn 0) n := ⟨_, rfl⟩
    rw [← hT] at hmv ⊢
    obtain ⟨m, hm⟩ : ∃ m, m = L.length := ⟨_, rfl⟩
    rw [← hm] at e1 e3
    rw [← h.len, ← hm] at la lb
    have hc0 : ∀ w1, Chg (fun _ => False) w w1 → w1.cell? ⟨g, 0, none⟩ = some (.slice (some ⟨b, 0, none⟩) m c) := fun w1 hC => by
      have := cell_of (h.keep hC).at_.cell 0 rfl
      rw [e1] at this
      exact this
    have HE := Lib.hid e1
    clear h hU hn h0 q0 q1 hT hm hb e1 e2
    go_enter Try.func21, Try.ntmps21
    go_wp2_with fail
    refine hf.mono ?_
    rintro e w1 ⟨rfl, hC⟩
    have hmv := hmv w1.drew hC.drew
    have hc0 := hc0 w1.drew hC.drew
    have HC := Lib.hid hC.drew
    clear hf hC
    go_wp2_with fail
    refine J.wp_region_seq (fun W => W.cell? ⟨g, 0, none⟩ = some (.slice (some ⟨b, 0, none⟩) m c)) [(0, 0), (1, 0), (2, 0), (3, 0), (4, 0), (5, 0), (6, 0), (7, 0), (8, 0), (9, 0), (10, 0), (11, 0), (12, 0), (13, 0), (14, 0), (15, 1), (16, 0)] (by kernel_rfl) (by kernel_rfl) (by kernel_rfl) hc0 ?_
    iterate 15 (apply J.look (by rfl) (by rfl); (focus (intro W hW; go_simp; exact HasV.val rfl)); simp only [Act.put, List.setIfInBounds_toArray, List.set_cons_zero, List.set_cons_succ])
    refine J.link (fun v W => v = .int .i64 T.2 ∧ Stp 64 34 38 S.hd w W g V L T.1) (by rfl) (by rfl) ?_ (fun v W hR => by
      obtain ⟨L', hL, _⟩ := hR.2
      have := cell_of hL.at_.cell 0 rfl
      rw [HE.out] at this
      exact this) ?_
    · go_simp
      refine J.HasR.call (hmv.mono ?_)
      rintro e W ⟨rfl, hS⟩
      exact ⟨_, rfl, rfl, hS⟩
    rintro v W ⟨rfl, hS⟩
    have HS := Lib.hid hS
    clear hS hmv hc0
    simp only [Act.put, List.setIfInBounds_toArray, List.set_cons_zero, List.set_cons_succ]
    apply J.look (by rfl) (by rfl); (focus (intro W hW; go_simp; exact HasV.val rfl)); simp only [Act.put, List.setIfInBounds_toArray, List.set_cons_zero, List.set_cons_succ]
    refine J.fin ?_
    go_wp2
    go_ret
    exact ⟨rfl, HS.out⟩

def S.keep (s : S) (n : Int) : S × Int := s.mv .pot .tre n
set_option maxHeartbeats 1000000 in
theorem keep_any {w : World} {g : Nat} {V : Value} {L : List Row} {s : S} (h : LS 64 34 38 S.hd w g V L s) (hU : s.U) (n : Int) (hn : U64 n) :
    Calls Try.prog 26 #[.pointer (some ⟨g, 0, none⟩), .int .u64 n] w fun e w' => e = .returned (.int .i64 (s.keep n).2) ∧ Stp 64 34 38 S.hd w w' g V L (s.keep n).1 := by
  unfold S.keep
  obtain ⟨b, hb⟩ : ∃ b, ∀ i, i < L.length → V.ownBlock = some b := by
    cases e : V.ownBlock with
    | some b => exact ⟨b, fun _ _ => rfl⟩
    | none =>
      refine ⟨0, fun i hi => ?_⟩
      obtain ⟨b, c, cur, e1, e2, _⟩ := h.at_.acc hi
      rw [e] at e2
      cases e2
  have hmv : ∀ w1, Chg (fun _ => False) w w1 → Calls Try.prog 32 #[.pointer (some (adr g b .pot)), .pointer (some (adr g b .tre)), .int .u64 n] w1 fun e w' => e = .returned (.int .i64 (s.mv .pot .tre n).2) ∧ Stp 64 34 38 S.hd w w' g V L (s.mv .pot .tre n).1 := by
    intro w1 hC
    obtain ⟨k1, k2⟩ := (h.keep hC).get hds (P := .pot) trivial hb
    obtain ⟨k3, k4⟩ := (h.keep hC).get hds (P := .tre) trivial hb
    refine (move_any _ _ _ _ n w1 k1 k3 k2 k4 (hU .pot trivial) hn).mono ?_
    intro e w' hp
    obtain ⟨r1, r2⟩ := mv_post (P := .pot) (Q := .tre) hds (h.keep hC) hb trivial trivial hp
    exact ⟨r1, Stp.after hC r2⟩
  simp only [adr] at hmv
  obtain ⟨T, hT⟩ : ∃ T, T = s.mv .pot .tre n := ⟨_, rfl⟩
  rw [← hT] at hmv ⊢
  have hmv := hmv w.drew ((Chg.refl _ w).drew)
  clear h hU hn hT hb
  go_enter Try.func26, Try.ntmps26
  go_wp2_with fail
  refine J.wp_region_seq (fun W => True) [(0, 0), (1, 0), (2, 0), (3, 0), (4, 0), (5, 0), (6, 0), (7, 1), (8, 0)] (by kernel_rfl) (by kernel_rfl) (by kernel_rfl) trivial ?_
  iterate 7 (apply J.look (by rfl) (by rfl); (focus (intro W hW; go_simp; exact HasV.val rfl)); simp only [Act.put, List.setIfInBounds_toArray, List.set_cons_zero, List.set_cons_succ])
  refine J.link (fun v W => v = .int .i64 T.2 ∧ Stp 64 34 38 S.hd w W g V L T.1) (by rfl) (by rfl) ?_ (fun v W hR => trivial) ?_
  · go_simp
    refine J.HasR.call (hmv.mono ?_)
    rintro e W ⟨rfl, hS⟩
    exact ⟨_, rfl, rfl, hS⟩
  rintro v W ⟨rfl, hS⟩
  have HS := Lib.hid hS
  clear hS hmv
  simp only [Act.put, List.setIfInBounds_toArray, List.set_cons_zero, List.set_cons_succ]
  apply J.look (by rfl) (by rfl); (focus (intro W hW; go_simp; exact HasV.val rfl)); simp only [Act.put, List.setIfInBounds_toArray, List.set_cons_zero, List.set_cons_succ]
  refine J.fin ?_
  go_wp2
  go_ret
  exact ⟨rfl, HS.out⟩
theorem add_any (a b : Int) (w : World) (ha : U64 a) (hb : U64 b) : Calls Try.prog 56 #[.int .u64 a, .int .u64 b] w fun e w' => e = .returned (.tuple (if a + b < 18446744073709551616 then #[.int .u64 (a + b), .int .i64 0] else #[.int .u64 0, .int .i64 3])) ∧ w = w' := by
  by_cases h0 : a + b < 18446744073709551616
  · rw [if_pos h0]
    obtain ⟨ha1, ha2⟩ := ha
    obtain ⟨hb1, hb2⟩ := hb
    go_enter Try.func56, Try.ntmps56
    go_wp2
    go_ret2
    exact ⟨rfl, rfl⟩
  · rw [if_neg h0]
    obtain ⟨m, hm1, hm2, hm3, hm4⟩ := wrap_over ha hb h0
    have hm5 : m < a := by obtain ⟨h1, h2⟩ := hb; omega
    have HM := Lib.hid hm2
    obtain ⟨ha1, ha2⟩ := ha
    obtain ⟨hb1, hb2⟩ := hb
    clear hm2 h0 hm3
    go_enter Try.func56, Try.ntmps56
    go_wp2
    go_ret2
    exact ⟨rfl, rfl⟩
def S.mint (s : S) (n : Int) : S × Int := if s.iss + n < 18446744073709551616 then ({ s with iss := s.iss + n, pot := (s.pot + n) % 18446744073709551616 }, 0) else (s, 3)
set_option maxHeartbeats 1000000 in
theorem mint_any {w : World} {g : Nat} {V : Value} {L : List Row} {s : S} (h : LS 64 34 38 S.hd w g V L s) (hi : U64 s.iss) (n : Int) (hn : U64 n) :
    Calls Try.prog 20 #[.pointer (some ⟨g, 0, none⟩), .int .u64 n] w fun e w' => e = .returned (.int .i64 (s.mint n).2) ∧ Stp 64 34 38 S.hd w w' g V L (s.mint n).1 := by
  have ha := add_any s.iss n w hi hn
  obtain ⟨x0, x1, x2, x3⟩ := read4 h.at_.cell
  have y0 := frozen_of h.at_.cell 2
  have y1 := frozen_of h.at_.cell 3
  unfold S.mint
  obtain ⟨acc, tre, pot, iss⟩ := s
  simp only at ha x0 x1 x2 x3 ⊢
  by_cases h0 : iss + n < 18446744073709551616
  · simp only [if_pos h0] at ha ⊢
    obtain ⟨d, hd⟩ : ∃ d, d = iss + n := ⟨_, rfl⟩
    rw [← hd] at ha ⊢
    have h1 := h.at_.setHd 2 (.int .u64 d)
    have h2 := h1.setHd 1 (.int .u64 ((pot + n) % 18446744073709551616))
    have hC : Chg (Mine g V L) w ((w.setCell ⟨g, 3, none⟩ (.int .u64 d)).setCell ⟨g, 2, none⟩ (.int .u64 ((pot + n) % 18446744073709551616))) := (((Chg.refl _ w).setCell (p := ⟨g, 3, none⟩) (fun _ => .inl rfl) _).setCell (p := ⟨g, 2, none⟩) (fun _ => .inl rfl) _)
    have HS : Hid (Stp 64 34 38 S.hd w ((w.setCell ⟨g, 3, none⟩ (.int .u64 d)).setCell ⟨g, 2, none⟩ (.int .u64 ((pot + n) % 18446744073709551616))) g V L ⟨acc, tre, (pot + n) % 18446744073709551616, d⟩) := Lib.hid ⟨L, ⟨h2, h.acc⟩, rfl, hC, fun k hk => .inl hk⟩
    obtain ⟨m, hm⟩ : ∃ m, IntKind.u64.wrap (pot + n) = m := ⟨_, rfl⟩
    rw [show (pot + n) % 18446744073709551616 = m by rw [← hm, wrap64u]] at HS ⊢
    have z2 : (w.setCell ⟨g, 3, none⟩ (.int .u64 d)).cell? ⟨g, 2, none⟩ = some (.int .u64 pot) := by rw [World.cell?_setCell_other _ _ _ _ (by simp)]; exact x2
    clear h h1 h2 hC hi hn h0 hd x0 x1
    go_enter Try.func20, Try.ntmps20
    go_wp2_with fail
    refine ha.mono ?_
    rintro e w' ⟨rfl, rfl⟩
    go_wp2
    go_ret
    exact ⟨rfl, HS.out⟩
  · simp only [if_neg h0] at ha ⊢
    have HL := Lib.hid h
    clear h hi hn h0 x0 x1 x2
    go_enter Try.func20, Try.ntmps20
    go_wp2_with fail
    refine ha.mono ?_
    rintro e w' ⟨rfl, rfl⟩
    go_wp2
    go_ret
    exact ⟨rfl, Stp.refl HL.out (Chg.refl _ _)⟩
end Go.Proofs.Ytpndkelbchjkiaa
