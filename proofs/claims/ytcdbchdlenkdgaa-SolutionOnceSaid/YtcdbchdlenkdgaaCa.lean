/- Calls: how many numbers a kind has; whether a call is formed. -/
import Derived.Test.YtcdbchdlenkdgaaL5
import Derived.Test.YtcdbchdlenkdgaaCc
import Derived.Test.YtcdbchdlenkdgaaRd
set_option linter.unusedVariables false
set_option linter.unusedSimpArgs false
namespace Go.Proofs.Ytcdbchdlenkdgaa
open Go.RowKit Go.Ps

set_option maxHeartbeats 1000000 in
theorem numbers_any (k : Int) (w : World) : Calls Try.prog 54 #[.int .i64 k] w fun e w' => e = .returned (.int .i64 (nums k)) ∧ w' = w := by
  by_cases h1 : k = 1 ∨ k = 13
  · have e : nums k = 2 := by unfold nums; rw [if_pos h1]
    rw [e]
    rcases h1 with rfl | rfl
    all_goals
      go_enter Try.func54, Try.ntmps54
      go_wp2
      go_ret
      exact ⟨rfl, rfl⟩
  · by_cases h2 : k = 2 ∨ k = 3 ∨ k = 5 ∨ k = 8 ∨ k = 9
    · have e : nums k = 1 := by unfold nums; rw [if_neg h1, if_pos h2]
      rw [e]
      clear h1
      rcases h2 with rfl | rfl | rfl | rfl | rfl
      all_goals
        go_enter Try.func54, Try.ntmps54
        go_wp2
        go_ret
        exact ⟨rfl, rfl⟩
    · by_cases h3 : k = 11 ∨ k = 12
      · have e : nums k = 3 := by unfold nums; rw [if_neg h1, if_neg h2, if_pos h3]
        rw [e]
        clear h1 h2
        rcases h3 with rfl | rfl
        all_goals
          go_enter Try.func54, Try.ntmps54
          go_wp2
          go_ret
          exact ⟨rfl, rfl⟩
      · have e : nums k = 0 := by unfold nums; rw [if_neg h1, if_neg h2, if_neg h3]
        rw [e]
        simp only [not_or] at h1 h2 h3
        have g1 : (k == 1) = false := by rw [beq_eq_false_iff_ne]; omega
        have g2 : (k == 13) = false := by rw [beq_eq_false_iff_ne]; omega
        have g3 : (k == 2) = false := by rw [beq_eq_false_iff_ne]; omega
        have g4 : (k == 3) = false := by rw [beq_eq_false_iff_ne]; omega
        have g5 : (k == 5) = false := by rw [beq_eq_false_iff_ne]; omega
        have g6 : (k == 8) = false := by rw [beq_eq_false_iff_ne]; omega
        have g7 : (k == 9) = false := by rw [beq_eq_false_iff_ne]; omega
        have g8 : (k == 11) = false := by rw [beq_eq_false_iff_ne]; omega
        have g9 : (k == 12) = false := by rw [beq_eq_false_iff_ne]; omega
        clear h1 h2 h3 e
        go_enter Try.func54, Try.ntmps54
        go_wp2
        go_ret
        exact ⟨rfl, rfl⟩
/-- What the document's numbers answers. -/
def numsR (k : Int) : Int := if 1 ≤ k ∧ k ≤ 16 then nums k else -1
set_option maxHeartbeats 4000000 in
theorem rnumbers_any (k : Int) (w : World) : Calls Try.prog 55 #[.int .i64 k] w fun e w' => e = .returned (.int .i64 (numsR k)) ∧ w' = w := by
  by_cases h : 1 ≤ k ∧ k ≤ 16
  · have hk : k = 1 ∨ k = 2 ∨ k = 3 ∨ k = 4 ∨ k = 5 ∨ k = 6 ∨ k = 7 ∨ k = 8 ∨ k = 9 ∨ k = 10 ∨ k = 11 ∨ k = 12 ∨ k = 13 ∨ k = 14 ∨ k = 15 ∨ k = 16 := by omega
    clear h
    rcases hk with rfl | rfl | rfl | rfl | rfl | rfl | rfl | rfl | rfl | rfl | rfl | rfl | rfl | rfl | rfl | rfl
    all_goals
      go_enter Try.func55, Try.ntmps55
      go_wp2
      go_ret
      exact ⟨rfl, rfl⟩
  · have e : numsR k = -1 := by unfold numsR; rw [if_neg h]
    rw [e]
    have g1 : (k == 1) = false := by rw [beq_eq_false_iff_ne]; omega
    have g2 : (k == 2) = false := by rw [beq_eq_false_iff_ne]; omega
    have g3 : (k == 3) = false := by rw [beq_eq_false_iff_ne]; omega
    have g4 : (k == 4) = false := by rw [beq_eq_false_iff_ne]; omega
    have g5 : (k == 5) = false := by rw [beq_eq_false_iff_ne]; omega
    have g6 : (k == 6) = false := by rw [beq_eq_false_iff_ne]; omega
    have g7 : (k == 7) = false := by rw [beq_eq_false_iff_ne]; omega
    have g8 : (k == 8) = false := by rw [beq_eq_false_iff_ne]; omega
    have g9 : (k == 9) = false := by rw [beq_eq_false_iff_ne]; omega
    have g10 : (k == 10) = false := by rw [beq_eq_false_iff_ne]; omega
    have g11 : (k == 11) = false := by rw [beq_eq_false_iff_ne]; omega
    have g12 : (k == 12) = false := by rw [beq_eq_false_iff_ne]; omega
    have g13 : (k == 13) = false := by rw [beq_eq_false_iff_ne]; omega
    have g14 : (k == 14) = false := by rw [beq_eq_false_iff_ne]; omega
    have g15 : (k == 15) = false := by rw [beq_eq_false_iff_ne]; omega
    have g16 : (k == 16) = false := by rw [beq_eq_false_iff_ne]; omega
    clear h e
    go_enter Try.func55, Try.ntmps55
    go_wp2
    go_ret
    exact ⟨rfl, rfl⟩
/-- A call as a value. -/
def cv (x : C7) (A : Option Addr) (c : Nat) (B : Option Addr) (d : Nat) : Value := .agg #[.int .i64 x.kind, .int .i64 x.who, .int .u64 x.a, .int .u64 x.b, .int .u64 x.c, .slice A x.list.length c, .slice B x.bytes.length d]
def BoolPost (b : Bool) (w : World) (e : Ending) (w' : World) : Prop := e = .returned (.bool b) ∧ Chg (fun _ => False) w w'
theorem size24 : (Try.prog.info? 24).map (·.size) = some 1 := by kernel_rfl
set_option maxRecDepth 20000 in
set_option maxHeartbeats 2000000 in
theorem formed_any (x : C7) (A : Option Addr) (c : Nat) (B : Option Addr) (d : Nat) (w : World) : Calls Try.prog 40 #[cv x A c B d] w (BoolPost (formedC x) w) := by
  obtain ⟨kind, who, a, b, e, list, bytes⟩ := x
  unfold cv
  simp only
  have hd : formedC ⟨kind, who, a, b, e, list, bytes⟩ = decide (1 ≤ kind ∧ kind ≤ 16 ∧ 0 ≤ who ∧ who ≤ 2147483647 ∧ (∀ n ∈ [a, b, e].drop (nums kind), n = 0) ∧ list.length ≤ (if kind = 6 then 8 else 0) ∧ bytes.length ≤ (if kind = 10 then 20000 else 0)) := rfl
  obtain ⟨F, hF⟩ : ∃ F, F = formedC ⟨kind, who, a, b, e, list, bytes⟩ := ⟨_, rfl⟩
  rw [← hF] at hd ⊢
  clear hF
  generalize list.length = nl at *
  generalize bytes.length = nb at *
  by_cases h1 : kind < 1
  · have e0 : F = false := by rw [hd]; simp; omega
    rw [e0]
    clear hd e0
    go_enter Try.func40, Try.ntmps40
    go_wp2
    go_ret
    exact ⟨rfl, (Chg.refl _ _).alloc _⟩
  · by_cases h2 : 16 < kind
    · have e0 : F = false := by rw [hd]; simp; omega
      rw [e0]
      clear hd e0
      go_enter Try.func40, Try.ntmps40
      go_wp2
      go_ret
      exact ⟨rfl, (Chg.refl _ _).alloc _⟩
    · by_cases h3 : who < 0
      · have e0 : F = false := by rw [hd]; simp; omega
        rw [e0]
        clear hd e0
        go_enter Try.func40, Try.ntmps40
        go_wp2
        go_ret
        exact ⟨rfl, (Chg.refl _ _).alloc _⟩
      · by_cases h4 : 2147483647 < who
        · have e0 : F = false := by rw [hd]; simp; omega
          rw [e0]
          clear hd e0
          go_enter Try.func40, Try.ntmps40
          go_wp2
          go_ret
          exact ⟨rfl, (Chg.refl _ _).alloc _⟩
        · obtain ⟨m, hm⟩ : ∃ m, m = nums kind := ⟨_, rfl⟩
          have hm3 := nums_le kind
          have hn := fun W => numbers_any kind W
          rw [← hm] at hd hm3 hn
          have HD := Lib.hid hd
          clear hd hm
          go_enter Try.func40, Try.ntmps40
          go_wp2
          obtain ⟨w1, hw1⟩ : ∃ w1, w1 = w.alloc (.cells #[.int .i64 kind, .int .i64 who, .int .u64 a, .int .u64 b, .int .u64 e, .slice A nl c, .slice B nb d] 60) := ⟨_, rfl⟩
          have hC1 : Chg (fun _ => False) w w1 := by rw [hw1]; exact (Chg.refl _ _).alloc _
          have hb := heap_alloc_at w (.cells #[.int .i64 kind, .int .i64 who, .int .u64 a, .int .u64 b, .int .u64 e, .slice A nl c, .slice B nb d] 60)
          rw [← hw1] at hb ⊢
          obtain ⟨g, hg⟩ : ∃ g, g = w.heap.size := ⟨_, rfl⟩
          rw [← hg] at hb ⊢
          have HC1 := Lib.hid hC1
          clear hw1 hg hC1
          have c0 := cell_of hb 0 rfl
          have c1 := cell_of hb 1 rfl
          have c2 := cell_of hb 2 rfl
          have c3 := cell_of hb 3 rfl
          have c4 := cell_of hb 4 rfl
          have c5 := cell_of hb 5 rfl
          have c6 := cell_of hb 6 rfl
          have hb2 := heap_alloc_ne (o := .cells #[.int .u64 a, .int .u64 b, .int .u64 e] 24) hb
          have d0 := cell_of hb2 0 rfl
          have d1 := cell_of hb2 1 rfl
          have d2 := cell_of hb2 2 rfl
          have d3 := cell_of hb2 3 rfl
          have d4 := cell_of hb2 4 rfl
          have d5 := cell_of hb2 5 rfl
          have d6 := cell_of hb2 6 rfl
          have hsl := fun W => run_cutL (P := Try.prog) (ki := .i64) Try.underlying29 size24 (some ⟨w1.heap.size, 0, none⟩) 3 3 m (by omega) (by omega) W
          clear hb hb2
          refine wp_region_two 6 ((w1.alloc (.cells #[.int .u64 a, .int .u64 b, .int .u64 e] 24)).drew) (by kernel_rfl) (by kernel_rfl) (by kernel_rfl) ?_
          iterate 6 (apply two_step (by rfl) (by rfl); (focus (intro W hW; rcases hW with rfl | rfl; (go_simp; exact HasV.val rfl); (go_simp; exact HasV.val rfl))); simp only [Act.put, List.setIfInBounds_toArray, List.set_cons_zero, List.set_cons_succ])
          apply two_do (by rfl) (by rfl)
          · go_simp
            exact HasV.val rfl
          simp only [Act.put, List.setIfInBounds_toArray, List.set_cons_zero, List.set_cons_succ]
          iterate 2 (apply two_step (by rfl) (by rfl); (focus (intro W hW; rcases hW with rfl | rfl; (go_simp; exact HasV.val rfl); (go_simp; exact HasV.val rfl))); simp only [Act.put, List.setIfInBounds_toArray, List.set_cons_zero, List.set_cons_succ])
          apply two_step (by rfl) (by rfl)
          · intro W hW
            go_simp
            exact HasV.call (hn W) fun _ h => h
          simp only [Act.put, List.setIfInBounds_toArray, List.set_cons_zero, List.set_cons_succ]
          apply two_step (by rfl) (by rfl)
          · intro W hW
            go_simp
            exact HasV.val rfl
          simp only [Act.put, List.setIfInBounds_toArray, List.set_cons_zero, List.set_cons_succ]
          iterate 2 (apply two_step (by rfl) (by rfl); (focus (intro W hW; go_simp; exact HasV.val rfl)); simp only [Act.put, List.setIfInBounds_toArray, List.set_cons_zero, List.set_cons_succ])
          refine two_nil ?_
          obtain ⟨W2, hW2⟩ : ∃ W2, W2 = (w1.alloc (.cells #[.int .u64 a, .int .u64 b, .int .u64 e] 24)).drew := ⟨_, rfl⟩
          have hrd : ReadsI W2 .u64 (cutA (some ⟨w1.heap.size, 0, none⟩) m 3) ([a, b, e].drop m) := by
            have h := cutA_sub (c := 3) (ReadsI.of_block (w := W2) (g := w1.heap.size) (l := [a, b, e]) (t := 24) (fr := (0, 0)) (by rw [hW2]; exact heap_alloc_at w1 _)) m 3 (by simp) (by simp)
            exact h
          have e5 : W2.cell? ⟨g, 5, none⟩ = some (.slice A nl c) := by rw [hW2]; exact d5
          have e6 : W2.cell? ⟨g, 6, none⟩ = some (.slice B nb d) := by rw [hW2]; exact d6
          have e0' : W2.cell? ⟨g, 0, none⟩ = some (.int .i64 kind) := by rw [hW2]; exact d0
          have hCW : Chg (fun _ => False) w W2 := by rw [hW2]; exact (chg_trans HC1.out ((Chg.refl _ _).alloc _)).drew
          rw [← hW2]
          have HRD := Lib.hid hrd
          have HC := Lib.hid hCW
          have hlen : ([a, b, e].drop m).length = 3 - m := by simp
          obtain ⟨R, hR⟩ : ∃ R, R = [a, b, e].drop m := ⟨_, rfl⟩
          rw [← hR] at hlen HRD HD
          obtain ⟨n, hnm⟩ : ∃ n, n = 3 - m := ⟨_, rfl⟩
          rw [← hnm] at hlen ⊢
          obtain ⟨A1, hA1⟩ : ∃ n, n = cutA (some ⟨w1.heap.size, 0, none⟩) m 3 := ⟨_, rfl⟩
          rw [← hA1] at HRD ⊢
          have hn3 : n ≤ 3 := by omega
          clear c0 c1 c2 c3 c4 c5 c6 d0 d1 d2 d3 d4 d5 d6 hsl hn hrd hCW hR hnm hA1 hW2 hm3 HC1
          go_wp2
          go_loop [37] (fun i => ∃ k : Nat, k ≤ n ∧ i = .int .i64 k ∧ ∀ j, j < k → R.getD j 0 = 0) (fun i => n - (intOf i).toNat)
          case atStart => exact ⟨0, by omega, rfl, fun j h => absurd h (by omega)⟩
          case round =>
            obtain ⟨k, hk, rfl, hz⟩ := hrel
            by_cases hk2 : k < n
            · obtain ⟨g1, o1, rfl, hx⟩ := HRD.out.plain (by rintro rfl; simp at hlen; omega)
              have hcell := hx k (by omega)
              obtain ⟨y, hy⟩ : ∃ y, y = R.getD k 0 := ⟨_, rfl⟩
              rw [← hy] at hcell
              by_cases hy0 : y = 0
              · subst hy0
                have hz2 : ∀ j, j < k + 1 → R.getD j 0 = 0 := fun j hj => by
                  by_cases hjk : j = k
                  · subst hjk; exact hy.symm
                  · exact hz j (by omega)
                have HZ := Lib.hid hz2
                clear hz hz2 hy hx hlen
                go_wp2
                go_round
                case rel => exact ⟨k + 1, by omega, by go_num, HZ.out⟩
                case measure => simp [intOf]; omega
              · have e0 : F = false := by
                  rw [HD.out, decide_eq_false_iff_not]
                  intro h
                  have := h.2.2.2.2.1 y (by
                    rw [hy, List.getD_eq_getElem?_getD, List.getElem?_eq_getElem (by omega)]
                    exact List.getElem_mem _)
                  exact hy0 this
                subst e0
                have hyb : (y != 0) = true := by simpa using hy0
                clear hz hy hx hlen HD hy0
                go_wp2
                go_ret
                exact ⟨rfl, HC.out⟩
            · have hkn : k = n := by omega
              subst hkn
              have hall : ∀ y ∈ R, y = 0 := fun y hy => by
                obtain ⟨j, hj, rfl⟩ := List.getElem_of_mem hy
                have := hz j (by omega)
                rw [List.getD_eq_getElem?_getD, List.getElem?_eq_getElem hj] at this
                exact this
              clear hz hlen
              by_cases k6 : kind = 6
              · subst k6
                have hF : F = decide (nl ≤ 8 ∧ nb ≤ 0) := by rw [HD.out]; simp only [decide_eq_decide]; simp only [if_pos, show ¬ (6 : Int) = 10 by decide, if_false]; exact ⟨fun h => ⟨h.2.2.2.2.2.1, h.2.2.2.2.2.2⟩, fun h => ⟨by omega, by omega, by omega, by omega, hall, h.1, h.2⟩⟩
                by_cases hl : nl ≤ 8
                · by_cases hb : nb ≤ 0
                  · have e0 : F = true := by rw [hF]; exact decide_eq_true ⟨hl, hb⟩
                    subst e0
                    have hz1 : nb = 0 ∨ (0 < nb ∧ decide (nb = 0) = false) := by
                      by_cases h : nb = 0
                      · exact Or.inl h
                      · exact Or.inr ⟨by omega, decide_eq_false h⟩
                    have hz2 : nl = 0 ∨ (0 < nl ∧ decide (nl = 0) = false) := by
                      by_cases h : nl = 0
                      · exact Or.inl h
                      · exact Or.inr ⟨by omega, decide_eq_false h⟩
                    clear hF hall HD
                    rcases hz1 with rfl | ⟨hp1, hz1⟩ <;> rcases hz2 with rfl | ⟨hp2, hz2⟩
                    all_goals first | omega | (go_wp2; go_ret; exact ⟨rfl, HC.out⟩)
                  · have e0 : F = false := by rw [hF]; exact decide_eq_false (fun h => by omega)
                    subst e0
                    have hz1 : nb = 0 ∨ (0 < nb ∧ decide (nb = 0) = false) := by
                      by_cases h : nb = 0
                      · exact Or.inl h
                      · exact Or.inr ⟨by omega, decide_eq_false h⟩
                    have hz2 : nl = 0 ∨ (0 < nl ∧ decide (nl = 0) = false) := by
                      by_cases h : nl = 0
                      · exact Or.inl h
                      · exact Or.inr ⟨by omega, decide_eq_false h⟩
                    clear hF hall HD
                    rcases hz1 with rfl | ⟨hp1, hz1⟩ <;> rcases hz2 with rfl | ⟨hp2, hz2⟩
                    all_goals first | omega | (go_wp2; go_ret; exact ⟨rfl, HC.out⟩)
                · have e0 : F = false := by rw [hF]; exact decide_eq_false (fun h => by omega)
                  subst e0
                  have hz1 : nb = 0 ∨ (0 < nb ∧ decide (nb = 0) = false) := by
                    by_cases h : nb = 0
                    · exact Or.inl h
                    · exact Or.inr ⟨by omega, decide_eq_false h⟩
                  have hz2 : nl = 0 ∨ (0 < nl ∧ decide (nl = 0) = false) := by
                    by_cases h : nl = 0
                    · exact Or.inl h
                    · exact Or.inr ⟨by omega, decide_eq_false h⟩
                  clear hF hall HD
                  rcases hz1 with rfl | ⟨hp1, hz1⟩ <;> rcases hz2 with rfl | ⟨hp2, hz2⟩
                  all_goals first | omega | (go_wp2; go_ret; exact ⟨rfl, HC.out⟩)
              · by_cases k10 : kind = 10
                · subst k10
                  have hF : F = decide (nl ≤ 0 ∧ nb ≤ 20000) := by rw [HD.out]; simp only [decide_eq_decide]; simp only [if_pos, show ¬ (10 : Int) = 6 by decide, if_false]; exact ⟨fun h => ⟨h.2.2.2.2.2.1, h.2.2.2.2.2.2⟩, fun h => ⟨by omega, by omega, by omega, by omega, hall, h.1, h.2⟩⟩
                  by_cases hl : nl ≤ 0
                  · by_cases hb : nb ≤ 20000
                    · have e0 : F = true := by rw [hF]; exact decide_eq_true ⟨hl, hb⟩
                      have hbI : decide ((nb : Int) ≤ 20000) = true := decide_eq_true (by omega)
                      subst e0
                      have hz1 : nb = 0 ∨ (0 < nb ∧ decide (nb = 0) = false) := by
                        by_cases h : nb = 0
                        · exact Or.inl h
                        · exact Or.inr ⟨by omega, decide_eq_false h⟩
                      have hz2 : nl = 0 ∨ (0 < nl ∧ decide (nl = 0) = false) := by
                        by_cases h : nl = 0
                        · exact Or.inl h
                        · exact Or.inr ⟨by omega, decide_eq_false h⟩
                      clear hF hall HD
                      rcases hz1 with rfl | ⟨hp1, hz1⟩ <;> rcases hz2 with rfl | ⟨hp2, hz2⟩
                      all_goals first | omega | (go_wp2; go_ret; exact ⟨rfl, HC.out⟩)
                    · have e0 : F = false := by rw [hF]; exact decide_eq_false (fun h => by omega)
                      have hbI : decide ((nb : Int) ≤ 20000) = false := decide_eq_false (by omega)
                      subst e0
                      have hz1 : nb = 0 ∨ (0 < nb ∧ decide (nb = 0) = false) := by
                        by_cases h : nb = 0
                        · exact Or.inl h
                        · exact Or.inr ⟨by omega, decide_eq_false h⟩
                      have hz2 : nl = 0 ∨ (0 < nl ∧ decide (nl = 0) = false) := by
                        by_cases h : nl = 0
                        · exact Or.inl h
                        · exact Or.inr ⟨by omega, decide_eq_false h⟩
                      clear hF hall HD
                      rcases hz1 with rfl | ⟨hp1, hz1⟩ <;> rcases hz2 with rfl | ⟨hp2, hz2⟩
                      all_goals first | omega | (go_wp2; go_ret; exact ⟨rfl, HC.out⟩)
                  · have e0 : F = false := by rw [hF]; exact decide_eq_false (fun h => by omega)
                    subst e0
                    have hz1 : nb = 0 ∨ (0 < nb ∧ decide (nb = 0) = false) := by
                      by_cases h : nb = 0
                      · exact Or.inl h
                      · exact Or.inr ⟨by omega, decide_eq_false h⟩
                    have hz2 : nl = 0 ∨ (0 < nl ∧ decide (nl = 0) = false) := by
                      by_cases h : nl = 0
                      · exact Or.inl h
                      · exact Or.inr ⟨by omega, decide_eq_false h⟩
                    clear hF hall HD
                    rcases hz1 with rfl | ⟨hp1, hz1⟩ <;> rcases hz2 with rfl | ⟨hp2, hz2⟩
                    all_goals first | omega | (go_wp2; go_ret; exact ⟨rfl, HC.out⟩)
                · have hF : F = decide (nl ≤ 0 ∧ nb ≤ 0) := by rw [HD.out]; simp only [decide_eq_decide]; simp only [if_neg k6, if_neg k10]; exact ⟨fun h => ⟨h.2.2.2.2.2.1, h.2.2.2.2.2.2⟩, fun h => ⟨by omega, by omega, by omega, by omega, hall, h.1, h.2⟩⟩
                  have b6 : (kind == 6) = false := by rw [beq_eq_false_iff_ne]; exact k6
                  have b10 : (kind == 10) = false := by rw [beq_eq_false_iff_ne]; exact k10
                  by_cases hl : nl ≤ 0
                  · by_cases hb : nb ≤ 0
                    · have e0 : F = true := by rw [hF]; exact decide_eq_true ⟨hl, hb⟩
                      subst e0
                      have hz1 : nb = 0 ∨ (0 < nb ∧ decide (nb = 0) = false) := by
                        by_cases h : nb = 0
                        · exact Or.inl h
                        · exact Or.inr ⟨by omega, decide_eq_false h⟩
                      have hz2 : nl = 0 ∨ (0 < nl ∧ decide (nl = 0) = false) := by
                        by_cases h : nl = 0
                        · exact Or.inl h
                        · exact Or.inr ⟨by omega, decide_eq_false h⟩
                      clear hF hall HD
                      rcases hz1 with rfl | ⟨hp1, hz1⟩ <;> rcases hz2 with rfl | ⟨hp2, hz2⟩
                      all_goals first | omega | (go_wp2; go_ret; exact ⟨rfl, HC.out⟩)
                    · have e0 : F = false := by rw [hF]; exact decide_eq_false (fun h => by omega)
                      subst e0
                      have hz1 : nb = 0 ∨ (0 < nb ∧ decide (nb = 0) = false) := by
                        by_cases h : nb = 0
                        · exact Or.inl h
                        · exact Or.inr ⟨by omega, decide_eq_false h⟩
                      have hz2 : nl = 0 ∨ (0 < nl ∧ decide (nl = 0) = false) := by
                        by_cases h : nl = 0
                        · exact Or.inl h
                        · exact Or.inr ⟨by omega, decide_eq_false h⟩
                      clear hF hall HD
                      rcases hz1 with rfl | ⟨hp1, hz1⟩ <;> rcases hz2 with rfl | ⟨hp2, hz2⟩
                      all_goals first | omega | (go_wp2; go_ret; exact ⟨rfl, HC.out⟩)
                  · have e0 : F = false := by rw [hF]; exact decide_eq_false (fun h => by omega)
                    subst e0
                    have hz1 : nb = 0 ∨ (0 < nb ∧ decide (nb = 0) = false) := by
                      by_cases h : nb = 0
                      · exact Or.inl h
                      · exact Or.inr ⟨by omega, decide_eq_false h⟩
                    have hz2 : nl = 0 ∨ (0 < nl ∧ decide (nl = 0) = false) := by
                      by_cases h : nl = 0
                      · exact Or.inl h
                      · exact Or.inr ⟨by omega, decide_eq_false h⟩
                    clear hF hall HD
                    rcases hz1 with rfl | ⟨hp1, hz1⟩ <;> rcases hz2 with rfl | ⟨hp2, hz2⟩
                    all_goals first | omega | (go_wp2; go_ret; exact ⟨rfl, HC.out⟩)
end Go.Proofs.Ytcdbchdlenkdgaa
