/- Calls: whether the document calls a call formed. -/
import Derived.Test.YtcdbchdlenkdgaaCa
set_option linter.unusedVariables false
set_option linter.unusedSimpArgs false
namespace Go.Proofs.Ytcdbchdlenkdgaa
open Go.RowKit Go.Ps

theorem neb {x y : Int} (h : ¬ x = y) : (x != y) = true := by simpa using h
theorem beqf {x y : Int} (h : ¬ x = y) : (x == y) = false := by simpa using h
theorem pos_or (n : Nat) : n = 0 ∨ (0 < n ∧ decide (n = 0) = false) := by
  by_cases h : n = 0
  · exact Or.inl h
  · exact Or.inr ⟨by omega, decide_eq_false h⟩
set_option maxRecDepth 20000 in
set_option maxHeartbeats 8000000 in
theorem rformed_any (x : C7) (A : Option Addr) (c : Nat) (B : Option Addr) (d : Nat) (w : World) : Calls Try.prog 41 #[cv x A c B d] w (BoolPost (formedC x) w) := by
  obtain ⟨kind, who, a, b, e, list, bytes⟩ := x
  unfold cv
  simp only
  have hd : formedC ⟨kind, who, a, b, e, list, bytes⟩ = decide (1 ≤ kind ∧ kind ≤ 16 ∧ 0 ≤ who ∧ who ≤ 2147483647 ∧ (∀ n ∈ [a, b, e].drop (nums kind), n = 0) ∧ list.length ≤ (if kind = 6 then 8 else 0) ∧ bytes.length ≤ (if kind = 10 then 20000 else 0)) := rfl
  obtain ⟨F, hF⟩ : ∃ F, F = formedC ⟨kind, who, a, b, e, list, bytes⟩ := ⟨_, rfl⟩
  rw [← hF] at hd ⊢
  clear hF
  generalize list.length = nl at *
  generalize bytes.length = nb at *
  have hn := fun W => rnumbers_any kind W
  by_cases h1 : 1 ≤ kind ∧ kind ≤ 16
  · have hnr : numsR kind = nums kind := by unfold numsR; rw [if_pos h1]
    rw [hnr] at hn
    have hm3 := nums_le kind
    obtain ⟨m, hm⟩ : ∃ m, m = nums kind := ⟨_, rfl⟩
    rw [← hm] at hd hm3 hn
    have HM := Lib.hid hm
    clear hnr hm
    by_cases h3 : who < 0
    · have e0 : F = false := by rw [hd]; exact decide_eq_false (fun h => by omega)
      rw [e0]
      clear hd e0
      go_enter Try.func41, Try.ntmps41
      go_wp2_with (go_at_call 55; refine (hn _).mono ?_; rintro e0 w' ⟨rfl, rfl⟩)
      go_ret
      exact ⟨rfl, (Chg.refl _ _).alloc _⟩
    · by_cases h4 : 2147483647 < who
      · have e0 : F = false := by rw [hd]; exact decide_eq_false (fun h => by omega)
        rw [e0]
        clear hd e0
        go_enter Try.func41, Try.ntmps41
        go_wp2_with (go_at_call 55; refine (hn _).mono ?_; rintro e0 w' ⟨rfl, rfl⟩)
        go_ret
        exact ⟨rfl, (Chg.refl _ _).alloc _⟩
      · by_cases hz : ∀ n ∈ [a, b, e].drop m, n = 0
        · have hmc : m = 0 ∨ m = 1 ∨ m = 2 ∨ m = 3 := by omega
          by_cases k6 : kind = 6
          · subst k6
            obtain rfl : m = 0 := by rw [HM.out]; rfl
            have z0 : a = 0 := hz a (by simp)
            have z1 : b = 0 := hz b (by simp)
            have z2 : e = 0 := hz e (by simp)
            subst z0 z1 z2
            clear hmc
            have hF : F = decide (nl ≤ 8 ∧ nb ≤ 0) := by rw [hd]; simp only [decide_eq_decide]; simp only [if_pos, show ¬ (6 : Int) = 10 by decide, if_false]; exact ⟨fun h => ⟨h.2.2.2.2.2.1, h.2.2.2.2.2.2⟩, fun h => ⟨by omega, by omega, by omega, by omega, hz, h.1, h.2⟩⟩
            by_cases hl : nl ≤ 8
            · by_cases hb : nb ≤ 0
              · have e0 : F = true := by rw [hF]; exact decide_eq_true ⟨hl, hb⟩
                subst e0
                clear hF hz hd
                have hInl : decide ((nl : Int) ≤ 8) = true := decide_eq_true (by omega)
                obtain rfl : nb = 0 := by omega
                go_enter Try.func41, Try.ntmps41
                go_wp2_with (go_at_call 55; refine (hn _).mono ?_; rintro e0 w' ⟨rfl, rfl⟩)
                go_ret
                exact ⟨rfl, (Chg.refl _ _).alloc _⟩
              · have e0 : F = false := by rw [hF]; exact decide_eq_false (fun h => by omega)
                subst e0
                clear hF hz hd
                have hInl : decide ((nl : Int) ≤ 8) = true := decide_eq_true (by omega)
                have hqnb : decide (nb = 0) = false := decide_eq_false (by omega)
                have hpnb : 0 < nb := by omega
                have hInb : decide ((0 : Int) < nb) = true := decide_eq_true (by omega)
                go_enter Try.func41, Try.ntmps41
                go_wp2_with (go_at_call 55; refine (hn _).mono ?_; rintro e0 w' ⟨rfl, rfl⟩)
                go_ret
                exact ⟨rfl, (Chg.refl _ _).alloc _⟩
            · by_cases hb : nb ≤ 0
              · have e0 : F = false := by rw [hF]; exact decide_eq_false (fun h => by omega)
                subst e0
                clear hF hz hd
                have hInl : decide ((nl : Int) ≤ 8) = false := decide_eq_false (by omega)
                obtain rfl : nb = 0 := by omega
                go_enter Try.func41, Try.ntmps41
                go_wp2_with (go_at_call 55; refine (hn _).mono ?_; rintro e0 w' ⟨rfl, rfl⟩)
                go_ret
                exact ⟨rfl, (Chg.refl _ _).alloc _⟩
              · have e0 : F = false := by rw [hF]; exact decide_eq_false (fun h => by omega)
                subst e0
                clear hF hz hd
                have hInl : decide ((nl : Int) ≤ 8) = false := decide_eq_false (by omega)
                have hqnb : decide (nb = 0) = false := decide_eq_false (by omega)
                have hpnb : 0 < nb := by omega
                have hInb : decide ((0 : Int) < nb) = true := decide_eq_true (by omega)
                go_enter Try.func41, Try.ntmps41
                go_wp2_with (go_at_call 55; refine (hn _).mono ?_; rintro e0 w' ⟨rfl, rfl⟩)
                go_ret
                exact ⟨rfl, (Chg.refl _ _).alloc _⟩
          · by_cases k10 : kind = 10
            · subst k10
              obtain rfl : m = 0 := by rw [HM.out]; rfl
              have z0 : a = 0 := hz a (by simp)
              have z1 : b = 0 := hz b (by simp)
              have z2 : e = 0 := hz e (by simp)
              subst z0 z1 z2
              clear hmc
              have hF : F = decide (nl ≤ 0 ∧ nb ≤ 20000) := by rw [hd]; simp only [decide_eq_decide]; simp only [if_pos, show ¬ (10 : Int) = 6 by decide, if_false]; exact ⟨fun h => ⟨h.2.2.2.2.2.1, h.2.2.2.2.2.2⟩, fun h => ⟨by omega, by omega, by omega, by omega, hz, h.1, h.2⟩⟩
              by_cases hl : nl ≤ 0
              · by_cases hb : nb ≤ 20000
                · have e0 : F = true := by rw [hF]; exact decide_eq_true ⟨hl, hb⟩
                  subst e0
                  clear hF hz hd
                  obtain rfl : nl = 0 := by omega
                  have hInb : decide ((nb : Int) ≤ 20000) = true := decide_eq_true (by omega)
                  go_enter Try.func41, Try.ntmps41
                  go_wp2_with (go_at_call 55; refine (hn _).mono ?_; rintro e0 w' ⟨rfl, rfl⟩)
                  go_ret
                  exact ⟨rfl, (Chg.refl _ _).alloc _⟩
                · have e0 : F = false := by rw [hF]; exact decide_eq_false (fun h => by omega)
                  subst e0
                  clear hF hz hd
                  obtain rfl : nl = 0 := by omega
                  have hInb : decide ((nb : Int) ≤ 20000) = false := decide_eq_false (by omega)
                  go_enter Try.func41, Try.ntmps41
                  go_wp2_with (go_at_call 55; refine (hn _).mono ?_; rintro e0 w' ⟨rfl, rfl⟩)
                  go_ret
                  exact ⟨rfl, (Chg.refl _ _).alloc _⟩
              · by_cases hb : nb ≤ 20000
                · have e0 : F = false := by rw [hF]; exact decide_eq_false (fun h => by omega)
                  subst e0
                  clear hF hz hd
                  have hqnl : decide (nl = 0) = false := decide_eq_false (by omega)
                  have hpnl : 0 < nl := by omega
                  have hInl : decide ((0 : Int) < nl) = true := decide_eq_true (by omega)
                  have hInb : decide ((nb : Int) ≤ 20000) = true := decide_eq_true (by omega)
                  go_enter Try.func41, Try.ntmps41
                  go_wp2_with (go_at_call 55; refine (hn _).mono ?_; rintro e0 w' ⟨rfl, rfl⟩)
                  go_ret
                  exact ⟨rfl, (Chg.refl _ _).alloc _⟩
                · have e0 : F = false := by rw [hF]; exact decide_eq_false (fun h => by omega)
                  subst e0
                  clear hF hz hd
                  have hqnl : decide (nl = 0) = false := decide_eq_false (by omega)
                  have hpnl : 0 < nl := by omega
                  have hInl : decide ((0 : Int) < nl) = true := decide_eq_true (by omega)
                  have hInb : decide ((nb : Int) ≤ 20000) = false := decide_eq_false (by omega)
                  go_enter Try.func41, Try.ntmps41
                  go_wp2_with (go_at_call 55; refine (hn _).mono ?_; rintro e0 w' ⟨rfl, rfl⟩)
                  go_ret
                  exact ⟨rfl, (Chg.refl _ _).alloc _⟩
            · have b6 := neb k6
              have b10 := neb k10
              rcases hmc with rfl | rfl | rfl | rfl
              · have y0 : a = 0 := hz a (by simp)
                have y1 : b = 0 := hz b (by simp)
                have y2 : e = 0 := hz e (by simp)
                subst y0 y1 y2
                have hF : F = decide (nl ≤ 0 ∧ nb ≤ 0) := by rw [hd]; simp only [decide_eq_decide]; simp only [if_neg k6, if_neg k10]; exact ⟨fun h => ⟨h.2.2.2.2.2.1, h.2.2.2.2.2.2⟩, fun h => ⟨by omega, by omega, by omega, by omega, hz, h.1, h.2⟩⟩
                by_cases hl : nl ≤ 0
                · by_cases hb : nb ≤ 0
                  · have e0 : F = true := by rw [hF]; exact decide_eq_true ⟨hl, hb⟩
                    subst e0
                    clear hF hz hd
                    obtain rfl : nl = 0 := by omega
                    obtain rfl : nb = 0 := by omega
                    go_enter Try.func41, Try.ntmps41
                    go_wp2_with (go_at_call 55; refine (hn _).mono ?_; rintro e0 w' ⟨rfl, rfl⟩)
                    go_ret
                    exact ⟨rfl, (Chg.refl _ _).alloc _⟩
                  · have e0 : F = false := by rw [hF]; exact decide_eq_false (fun h => by omega)
                    subst e0
                    clear hF hz hd
                    obtain rfl : nl = 0 := by omega
                    have hqnb : decide (nb = 0) = false := decide_eq_false (by omega)
                    have hpnb : 0 < nb := by omega
                    have hInb : decide ((0 : Int) < nb) = true := decide_eq_true (by omega)
                    go_enter Try.func41, Try.ntmps41
                    go_wp2_with (go_at_call 55; refine (hn _).mono ?_; rintro e0 w' ⟨rfl, rfl⟩)
                    go_ret
                    exact ⟨rfl, (Chg.refl _ _).alloc _⟩
                · by_cases hb : nb ≤ 0
                  · have e0 : F = false := by rw [hF]; exact decide_eq_false (fun h => by omega)
                    subst e0
                    clear hF hz hd
                    have hqnl : decide (nl = 0) = false := decide_eq_false (by omega)
                    have hpnl : 0 < nl := by omega
                    have hInl : decide ((0 : Int) < nl) = true := decide_eq_true (by omega)
                    obtain rfl : nb = 0 := by omega
                    go_enter Try.func41, Try.ntmps41
                    go_wp2_with (go_at_call 55; refine (hn _).mono ?_; rintro e0 w' ⟨rfl, rfl⟩)
                    go_ret
                    exact ⟨rfl, (Chg.refl _ _).alloc _⟩
                  · have e0 : F = false := by rw [hF]; exact decide_eq_false (fun h => by omega)
                    subst e0
                    clear hF hz hd
                    have hqnl : decide (nl = 0) = false := decide_eq_false (by omega)
                    have hpnl : 0 < nl := by omega
                    have hInl : decide ((0 : Int) < nl) = true := decide_eq_true (by omega)
                    have hqnb : decide (nb = 0) = false := decide_eq_false (by omega)
                    have hpnb : 0 < nb := by omega
                    have hInb : decide ((0 : Int) < nb) = true := decide_eq_true (by omega)
                    go_enter Try.func41, Try.ntmps41
                    go_wp2_with (go_at_call 55; refine (hn _).mono ?_; rintro e0 w' ⟨rfl, rfl⟩)
                    go_ret
                    exact ⟨rfl, (Chg.refl _ _).alloc _⟩
              · have y0 : b = 0 := hz b (by simp)
                have y1 : e = 0 := hz e (by simp)
                subst y0 y1
                have hF : F = decide (nl ≤ 0 ∧ nb ≤ 0) := by rw [hd]; simp only [decide_eq_decide]; simp only [if_neg k6, if_neg k10]; exact ⟨fun h => ⟨h.2.2.2.2.2.1, h.2.2.2.2.2.2⟩, fun h => ⟨by omega, by omega, by omega, by omega, hz, h.1, h.2⟩⟩
                by_cases hl : nl ≤ 0
                · by_cases hb : nb ≤ 0
                  · have e0 : F = true := by rw [hF]; exact decide_eq_true ⟨hl, hb⟩
                    subst e0
                    clear hF hz hd
                    obtain rfl : nl = 0 := by omega
                    obtain rfl : nb = 0 := by omega
                    go_enter Try.func41, Try.ntmps41
                    go_wp2_with (go_at_call 55; refine (hn _).mono ?_; rintro e0 w' ⟨rfl, rfl⟩)
                    go_ret
                    exact ⟨rfl, (Chg.refl _ _).alloc _⟩
                  · have e0 : F = false := by rw [hF]; exact decide_eq_false (fun h => by omega)
                    subst e0
                    clear hF hz hd
                    obtain rfl : nl = 0 := by omega
                    have hqnb : decide (nb = 0) = false := decide_eq_false (by omega)
                    have hpnb : 0 < nb := by omega
                    have hInb : decide ((0 : Int) < nb) = true := decide_eq_true (by omega)
                    go_enter Try.func41, Try.ntmps41
                    go_wp2_with (go_at_call 55; refine (hn _).mono ?_; rintro e0 w' ⟨rfl, rfl⟩)
                    go_ret
                    exact ⟨rfl, (Chg.refl _ _).alloc _⟩
                · by_cases hb : nb ≤ 0
                  · have e0 : F = false := by rw [hF]; exact decide_eq_false (fun h => by omega)
                    subst e0
                    clear hF hz hd
                    have hqnl : decide (nl = 0) = false := decide_eq_false (by omega)
                    have hpnl : 0 < nl := by omega
                    have hInl : decide ((0 : Int) < nl) = true := decide_eq_true (by omega)
                    obtain rfl : nb = 0 := by omega
                    go_enter Try.func41, Try.ntmps41
                    go_wp2_with (go_at_call 55; refine (hn _).mono ?_; rintro e0 w' ⟨rfl, rfl⟩)
                    go_ret
                    exact ⟨rfl, (Chg.refl _ _).alloc _⟩
                  · have e0 : F = false := by rw [hF]; exact decide_eq_false (fun h => by omega)
                    subst e0
                    clear hF hz hd
                    have hqnl : decide (nl = 0) = false := decide_eq_false (by omega)
                    have hpnl : 0 < nl := by omega
                    have hInl : decide ((0 : Int) < nl) = true := decide_eq_true (by omega)
                    have hqnb : decide (nb = 0) = false := decide_eq_false (by omega)
                    have hpnb : 0 < nb := by omega
                    have hInb : decide ((0 : Int) < nb) = true := decide_eq_true (by omega)
                    go_enter Try.func41, Try.ntmps41
                    go_wp2_with (go_at_call 55; refine (hn _).mono ?_; rintro e0 w' ⟨rfl, rfl⟩)
                    go_ret
                    exact ⟨rfl, (Chg.refl _ _).alloc _⟩
              · have y0 : e = 0 := hz e (by simp)
                subst y0
                have hF : F = decide (nl ≤ 0 ∧ nb ≤ 0) := by rw [hd]; simp only [decide_eq_decide]; simp only [if_neg k6, if_neg k10]; exact ⟨fun h => ⟨h.2.2.2.2.2.1, h.2.2.2.2.2.2⟩, fun h => ⟨by omega, by omega, by omega, by omega, hz, h.1, h.2⟩⟩
                by_cases hl : nl ≤ 0
                · by_cases hb : nb ≤ 0
                  · have e0 : F = true := by rw [hF]; exact decide_eq_true ⟨hl, hb⟩
                    subst e0
                    clear hF hz hd
                    obtain rfl : nl = 0 := by omega
                    obtain rfl : nb = 0 := by omega
                    go_enter Try.func41, Try.ntmps41
                    go_wp2_with (go_at_call 55; refine (hn _).mono ?_; rintro e0 w' ⟨rfl, rfl⟩)
                    go_ret
                    exact ⟨rfl, (Chg.refl _ _).alloc _⟩
                  · have e0 : F = false := by rw [hF]; exact decide_eq_false (fun h => by omega)
                    subst e0
                    clear hF hz hd
                    obtain rfl : nl = 0 := by omega
                    have hqnb : decide (nb = 0) = false := decide_eq_false (by omega)
                    have hpnb : 0 < nb := by omega
                    have hInb : decide ((0 : Int) < nb) = true := decide_eq_true (by omega)
                    go_enter Try.func41, Try.ntmps41
                    go_wp2_with (go_at_call 55; refine (hn _).mono ?_; rintro e0 w' ⟨rfl, rfl⟩)
                    go_ret
                    exact ⟨rfl, (Chg.refl _ _).alloc _⟩
                · by_cases hb : nb ≤ 0
                  · have e0 : F = false := by rw [hF]; exact decide_eq_false (fun h => by omega)
                    subst e0
                    clear hF hz hd
                    have hqnl : decide (nl = 0) = false := decide_eq_false (by omega)
                    have hpnl : 0 < nl := by omega
                    have hInl : decide ((0 : Int) < nl) = true := decide_eq_true (by omega)
                    obtain rfl : nb = 0 := by omega
                    go_enter Try.func41, Try.ntmps41
                    go_wp2_with (go_at_call 55; refine (hn _).mono ?_; rintro e0 w' ⟨rfl, rfl⟩)
                    go_ret
                    exact ⟨rfl, (Chg.refl _ _).alloc _⟩
                  · have e0 : F = false := by rw [hF]; exact decide_eq_false (fun h => by omega)
                    subst e0
                    clear hF hz hd
                    have hqnl : decide (nl = 0) = false := decide_eq_false (by omega)
                    have hpnl : 0 < nl := by omega
                    have hInl : decide ((0 : Int) < nl) = true := decide_eq_true (by omega)
                    have hqnb : decide (nb = 0) = false := decide_eq_false (by omega)
                    have hpnb : 0 < nb := by omega
                    have hInb : decide ((0 : Int) < nb) = true := decide_eq_true (by omega)
                    go_enter Try.func41, Try.ntmps41
                    go_wp2_with (go_at_call 55; refine (hn _).mono ?_; rintro e0 w' ⟨rfl, rfl⟩)
                    go_ret
                    exact ⟨rfl, (Chg.refl _ _).alloc _⟩
              · skip
                have hF : F = decide (nl ≤ 0 ∧ nb ≤ 0) := by rw [hd]; simp only [decide_eq_decide]; simp only [if_neg k6, if_neg k10]; exact ⟨fun h => ⟨h.2.2.2.2.2.1, h.2.2.2.2.2.2⟩, fun h => ⟨by omega, by omega, by omega, by omega, hz, h.1, h.2⟩⟩
                by_cases hl : nl ≤ 0
                · by_cases hb : nb ≤ 0
                  · have e0 : F = true := by rw [hF]; exact decide_eq_true ⟨hl, hb⟩
                    subst e0
                    clear hF hz hd
                    obtain rfl : nl = 0 := by omega
                    obtain rfl : nb = 0 := by omega
                    go_enter Try.func41, Try.ntmps41
                    go_wp2_with (go_at_call 55; refine (hn _).mono ?_; rintro e0 w' ⟨rfl, rfl⟩)
                    go_ret
                    exact ⟨rfl, (Chg.refl _ _).alloc _⟩
                  · have e0 : F = false := by rw [hF]; exact decide_eq_false (fun h => by omega)
                    subst e0
                    clear hF hz hd
                    obtain rfl : nl = 0 := by omega
                    have hqnb : decide (nb = 0) = false := decide_eq_false (by omega)
                    have hpnb : 0 < nb := by omega
                    have hInb : decide ((0 : Int) < nb) = true := decide_eq_true (by omega)
                    go_enter Try.func41, Try.ntmps41
                    go_wp2_with (go_at_call 55; refine (hn _).mono ?_; rintro e0 w' ⟨rfl, rfl⟩)
                    go_ret
                    exact ⟨rfl, (Chg.refl _ _).alloc _⟩
                · by_cases hb : nb ≤ 0
                  · have e0 : F = false := by rw [hF]; exact decide_eq_false (fun h => by omega)
                    subst e0
                    clear hF hz hd
                    have hqnl : decide (nl = 0) = false := decide_eq_false (by omega)
                    have hpnl : 0 < nl := by omega
                    have hInl : decide ((0 : Int) < nl) = true := decide_eq_true (by omega)
                    obtain rfl : nb = 0 := by omega
                    go_enter Try.func41, Try.ntmps41
                    go_wp2_with (go_at_call 55; refine (hn _).mono ?_; rintro e0 w' ⟨rfl, rfl⟩)
                    go_ret
                    exact ⟨rfl, (Chg.refl _ _).alloc _⟩
                  · have e0 : F = false := by rw [hF]; exact decide_eq_false (fun h => by omega)
                    subst e0
                    clear hF hz hd
                    have hqnl : decide (nl = 0) = false := decide_eq_false (by omega)
                    have hpnl : 0 < nl := by omega
                    have hInl : decide ((0 : Int) < nl) = true := decide_eq_true (by omega)
                    have hqnb : decide (nb = 0) = false := decide_eq_false (by omega)
                    have hpnb : 0 < nb := by omega
                    have hInb : decide ((0 : Int) < nb) = true := decide_eq_true (by omega)
                    go_enter Try.func41, Try.ntmps41
                    go_wp2_with (go_at_call 55; refine (hn _).mono ?_; rintro e0 w' ⟨rfl, rfl⟩)
                    go_ret
                    exact ⟨rfl, (Chg.refl _ _).alloc _⟩
        · have e0 : F = false := by rw [hd]; exact decide_eq_false (fun h => hz h.2.2.2.2.1)
          subst e0
          clear hd
          have hmc : m = 0 ∨ m = 1 ∨ m = 2 ∨ m = 3 := by omega
          by_cases y0 : a = 0 <;> by_cases y1 : b = 0 <;> by_cases y2 : e = 0 <;> rcases hmc with rfl | rfl | rfl | rfl
          all_goals first | (exfalso; apply hz; simp; done) | (exfalso; apply hz; simp [y0, y1, y2]; done) | skip
          all_goals clear hz
          all_goals (try have q0 := neb y0)
          all_goals (try have q1 := neb y1)
          all_goals (try have q2 := neb y2)
          all_goals (try subst y0)
          all_goals (try subst y1)
          all_goals (try subst y2)
          all_goals (go_enter Try.func41, Try.ntmps41; go_wp2_with (go_at_call 55; refine (hn _).mono ?_; rintro e0 w' ⟨rfl, rfl⟩); go_ret; exact ⟨rfl, (Chg.refl _ _).alloc _⟩)
  · have hnr : numsR kind = -1 := by unfold numsR; rw [if_neg h1]
    have e0 : F = false := by rw [hd]; exact decide_eq_false (fun h => h1 ⟨h.1, h.2.1⟩)
    subst e0
    rw [hnr] at hn
    clear hd hnr h1
    go_enter Try.func41, Try.ntmps41
    go_wp2_with (go_at_call 55; refine (hn _).mono ?_; rintro e0 w' ⟨rfl, rfl⟩)
    go_ret
    exact ⟨rfl, (Chg.refl _ _).alloc _⟩
end Go.Proofs.Ytcdbchdlenkdgaa
