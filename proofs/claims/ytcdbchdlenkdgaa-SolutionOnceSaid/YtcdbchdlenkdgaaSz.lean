/- Compact numbers: Size and the document's size. -/
import Derived.Test.YtcdbchdlenkdgaaProg
import Derived.Test.YtcdbchdlenkdgaaCx
import Derived.Outline
import Derived.RegionTactic
import Derived.ChangeAlike
import Derived.Deep.QuietTactic
import Derived.BigQuiet
import Derived.StillTailTactics
import Derived.Deep.RegionHeld3
import Derived.OpenShut
set_option linter.unusedVariables false
set_option linter.unusedSimpArgs false
namespace Go.Proofs.Ytcdbchdlenkdgaa
open Go.RowKit Go.Ps

theorem csz_step (n : Int) (h0 : 1073741824 ≤ n) (k : Nat) (h4 : 4 ≤ k) (h8 : k < 8) (hc : k + 1 ≤ csz n) : (n / 2 ^ (8 * k) = 0 → csz n = k + 1) ∧ (¬ n / 2 ^ (8 * k) = 0 → k + 2 ≤ csz n) := by
  have : k = 4 ∨ k = 5 ∨ k = 6 ∨ k = 7 := by omega
  unfold csz at hc ⊢
  rcases this with rfl | rfl | rfl | rfl
  all_goals
    simp only [show (2 : Int) ^ (8 * 4) = 4294967296 from rfl, show (2 : Int) ^ (8 * 5) = 1099511627776 from rfl, show (2 : Int) ^ (8 * 6) = 281474976710656 from rfl, show (2 : Int) ^ (8 * 7) = 72057594037927936 from rfl]
    constructor <;> intro h
    all_goals
      revert hc
      repeat' split
      all_goals omega
theorem size_any (n : Int) (w : World) (h : U64' n) : Calls Try.prog 24 #[.int .u64 n] w fun e w' => e = .returned (.int .i64 (csz n)) ∧ w = w' := by
  obtain ⟨h1, h2⟩ := h
  by_cases c1 : n < 64
  · have e : csz n = 1 := by unfold csz; rw [if_pos c1]
    rw [e]
    go_enter Try.func24, Try.ntmps24
    go_wp2
    go_ret
    exact ⟨rfl, rfl⟩
  · by_cases c2 : n < 16384
    · have e : csz n = 2 := by unfold csz; rw [if_neg c1, if_pos c2]
      rw [e]
      go_enter Try.func24, Try.ntmps24
      go_wp2
      go_ret
      exact ⟨rfl, rfl⟩
    · by_cases c3 : n < 1073741824
      · have e : csz n = 4 := by unfold csz; rw [if_neg c1, if_neg c2, if_pos c3]
        rw [e]
        go_enter Try.func24, Try.ntmps24
        go_wp2
        go_ret
        exact ⟨rfl, rfl⟩
      · have hs := csz_cases n (by omega)
        have hst := csz_step n (by omega)
        obtain ⟨m, hm⟩ : ∃ m, m = csz n := ⟨_, rfl⟩
        rw [← hm] at hs hst ⊢
        have HST := Lib.hid hst
        clear hm hst
        go_enter Try.func24, Try.ntmps24
        go_wp2
        go_loop [3] (fun i => ∃ k : Nat, i = .int .i64 k ∧ 4 ≤ k ∧ k ≤ 8 ∧ k + 1 ≤ m) (fun i => 8 - (intOf i).toNat)
        case atStart => exact ⟨4, rfl, by omega, by omega, by omega⟩
        case round =>
          obtain ⟨k, rfl, hk1, hk2, hk3⟩ := hrel
          by_cases hk8 : k < 8
          · obtain ⟨s1, s2⟩ := HST.out k hk1 hk8 hk3
            by_cases hz : n / 2 ^ (8 * k) = 0
            · have e := s1 hz
              have hzb : (n / 2 ^ (8 * k) != 0) = false := by simpa using hz
              subst e
              clear s1 s2 HST hz
              go_wp2
              go_ret
              rw [Int.add_comm (k : Int) 1]
              exact ⟨rfl, rfl⟩
            · have e := s2 hz
              have hzb : (n / 2 ^ (8 * k) != 0) = true := by simpa using hz
              clear s1 s2 hz
              go_wp2
              go_round
              case rel => exact ⟨k + 1, by go_num, by omega, by omega, by omega⟩
              case measure => simp [intOf]; omega
          · have e : k = 8 := by omega
            subst e
            have em : m = 9 := by omega
            subst em
            clear HST
            go_wp2
            go_ret
            exact ⟨rfl, rfl⟩
theorem and3 (b : Int) (h0 : 0 ≤ b) (h1 : b ≤ 255) : bits .and .u8 b 3 = b % 4 := bits_mask .u8 8 (by decide) wraps_u8 2 (by decide) b h0 (by omega)
theorem rsize_any (b : Int) (w : World) (h : 0 ≤ b ∧ b ≤ 255) : Calls Try.prog 45 #[.int .u8 b] w fun e w' => e = .returned (.int .i64 (clen b)) ∧ w = w' := by
  have h3 := and3 b h.1 h.2
  obtain ⟨m, hm⟩ : ∃ m, m = b % 4 := ⟨_, rfl⟩
  rw [← hm] at h3
  have hmc : m = 0 ∨ m = 1 ∨ m = 2 ∨ m = 3 := by omega
  have hmH := Lib.hid hm
  clear hm
  rcases hmc with rfl | rfl | rfl | rfl
  · have e : clen b = 1 := by unfold clen; have := hmH.out; rw [if_pos (by omega)]
    rw [e]
    go_enter Try.func45, Try.ntmps45
    go_wp2
    go_ret
    exact ⟨rfl, rfl⟩
  · have e : clen b = 2 := by unfold clen; have := hmH.out; rw [if_neg (by omega), if_pos (by omega)]
    rw [e]
    go_enter Try.func45, Try.ntmps45
    go_wp2
    go_ret
    exact ⟨rfl, rfl⟩
  · have e : clen b = 4 := by unfold clen; have := hmH.out; rw [if_neg (by omega), if_neg (by omega), if_pos (by omega)]
    rw [e]
    go_enter Try.func45, Try.ntmps45
    go_wp2
    go_ret
    exact ⟨rfl, rfl⟩
  · have e : clen b = 5 + (b / 4).toNat := by unfold clen; have := hmH.out; rw [if_neg (by omega), if_neg (by omega), if_neg (by omega)]
    have e9 : ((5 + (b / 4).toNat : Nat) : Int) = 5 + b / 4 := by omega
    rw [e, e9]
    go_enter Try.func45, Try.ntmps45
    go_wp2
    go_ret
    exact ⟨rfl, rfl⟩
end Go.Proofs.Ytcdbchdlenkdgaa
