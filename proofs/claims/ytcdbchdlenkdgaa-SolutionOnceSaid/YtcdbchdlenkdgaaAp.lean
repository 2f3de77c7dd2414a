/- Compact numbers: Append. -/
import Derived.Test.YtcdbchdlenkdgaaNm
import Derived.Test.YtcdbchdlenkdgaaK2
set_option linter.unusedVariables false
set_option linter.unusedSimpArgs false
namespace Go.Proofs.Ytcdbchdlenkdgaa
open Go.RowKit Go.Ps

theorem NewB.form {w w' : World} {v : Value} {l : List Int} (h : NewB w w' v l) : ∃ A c, v = .slice A l.length c ∧ ReadsI w' .u8 A l := New.form h
theorem NewB.after {w w1 w2 : World} {v : Value} {l : List Int} (hc : Chg (fun _ => False) w w1) (h : NewB w1 w2 v l) : NewB w w2 v l := New.after hc h
theorem NewB.push {w wr : World} {A : Option Addr} {c L : Nat} {m : List Int} (h : NewB w wr (.slice A L c) m) (hl : m.length = L) (x : Int) (hb : L + 1 ≤ 200000000000000) :
    ∃ A2 c2 w2, (Builtin.append_ #[22, 22] 22 #[.slice A L c, .slice (some ⟨wr.heap.size, 0, none⟩) 1 1]).run Try.prog (wr.alloc (.cells #[.int .u8 x] 5)) = .ok (.slice A2 (L + 1) c2) w2 ∧ NewB w w2 (.slice A2 (L + 1) c2) (m ++ [x]) := New.push h Try.underlying22 info5 hl x (by omega) (by omega)
def RowPost (l : List Int) (w : World) (e : Ending) (w' : World) : Prop := ∃ v, e = .returned v ∧ NewB w w' v l
theorem clone_any (w : World) (A : Option Addr) (c : Nat) (l : List Int) (hr : ReadsI w .u8 A l) (hl : l.length ≤ 200000000000000) : Calls Try.prog 46 #[.slice A l.length c] w (RowPost l w) := by
  cases A with
  | none =>
    obtain rfl := hr.none
    have fin : RowPost [] w (.returned (.slice none 0 0)) w := ⟨_, rfl, Own.nil _ _ _, Chg.refl _ _, fun k hk => by cases hk⟩
    have FIN := Lib.hid fin
    have hn := fun (W : World) => Lib.run_eql_slice_nil (P := Try.prog) W 22 5 none 0 c 0 0 Try.underlying22
    clear fin hr hl
    go_enter Try.func46, Try.ntmps46
    go_wp2
    go_ret
    exact FIN.out
  | some a =>
    have hn := fun (W : World) => Lib.run_eql_slice_nil (P := Try.prog) W 22 5 (some a) l.length c 0 0 Try.underlying22
    have hO : Own (w.alloc (.cells #[] 5)) 5 .u8 (.slice (some ⟨w.heap.size, 0, none⟩) 0 0) [] := own_of_block [] 0 (heap_alloc_at w _) rfl (by simp)
    obtain ⟨A2, c2, w2, hap, ho2, hg2, hat2⟩ := hO.appendW (P := Try.prog) 22 Try.underlying22 info5 c (hr.alloc _) (by simp; omega) (by omega)
    simp only [List.length_nil, Nat.zero_add, List.nil_append] at hap ho2 hat2
    have hc2 : Chg (fun _ => False) w w2 := ((Chg.refl _ w).alloc _).grown hg2 (fun k hk hlt => by cases hk; exact absurd hlt (Nat.lt_irrefl _))
    have fin : RowPost l w (.returned (.slice A2 l.length c2)) w2 := ⟨_, rfl, ho2, hc2, fun k hk => by
      rcases hat2 with h | h
      · rw [h] at hk; cases hk; exact Nat.le_refl _
      · rw [h] at hk; cases hk; simp⟩
    have FIN := Lib.hid fin
    clear fin hr hl hO hc2 ho2 hg2 hat2
    go_enter Try.func46, Try.ntmps46
    go_wp2_with (at_builtin; refine wpList_append_run rfl _ _ 22 rfl _ _ _ _ rfl rfl hap ?_)
    go_ret
    exact FIN.out
theorem or0 (n : Int) (h0 : 0 ≤ n) (h : n < 4611686018427387904) : bits .or .u64 (n * 4) 0 = n * 4 := by
  rw [bits_join .u64 64 (by decide) wraps_u64 2 (n * 4) 0 (by omega) (by omega) (by omega) (by omega) (by omega) (by omega)]
  omega
theorem or3 (n : Int) (h0 : 0 ≤ n) (h : n ≤ 4) : bits .or .u8 (n * 4) 3 = n * 4 + 3 := by
  have : n = 0 ∨ n = 1 ∨ n = 2 ∨ n = 3 ∨ n = 4 := by omega
  rcases this with rfl | rfl | rfl | rfl | rfl <;> decide
theorem app_assoc1 (a : List Int) (x : Int) (t : List Int) : a ++ x :: t = (a ++ [x]) ++ t := by simp

set_option maxRecDepth 20000 in
set_option maxHeartbeats 1000000 in
theorem append_any (w : World) (A : Option Addr) (c : Nat) (l : List Int) (n : Int) (hr : ReadsI w .u8 A l) (hl : l.length + 9 ≤ 200000000000000) (h : U64' n) : Calls Try.prog 22 #[.slice A l.length c, .int .u64 n] w (RowPost (l ++ enc n) w) := by
  obtain ⟨h1, h2⟩ := h
  have hcl := clone_any w A c l hr (by omega)
  have hsz := fun W => size_any n W ⟨h1, h2⟩
  clear hr
  by_cases c1 : n < 64
  · have he : enc n = dig 1 (n * 4) := by unfold enc; rw [if_pos c1, Int.mul_comm]
    have hk : csz n = 1 := by unfold csz; rw [if_pos c1]
    have ho := or0 n h1 (by omega)
    rw [hk] at hsz
    have fin : ∀ W v, NewB w W v (l ++ dig 1 (n * 4)) → RowPost (l ++ enc n) w (.returned v) W := fun W v hh => ⟨v, rfl, by rw [he]; exact hh⟩
    have FIN := Lib.hid fin
    clear fin
    clear hk he h2
    go_enter Try.func22, Try.ntmps22
    go_wp2_with (go_at_call 46; refine hcl.mono ?_; rintro e w1 ⟨v1, rfl, hN1⟩)
    obtain ⟨A1, d1, rfl, _⟩ := hN1.form
    clear hcl
    go_wp2_with (go_at_call 24; refine (hsz _).mono ?_; rintro e w' ⟨rfl, rfl⟩)
    clear hsz
    obtain ⟨M, hM⟩ : ∃ M, M = n * 4 := ⟨_, rfl⟩
    have hM0 : 0 ≤ M ∧ M < 18446744073709551616 := by omega
    have fin := FIN.out
    rw [← hM] at fin ⊢
    clear hM FIN
    have hPl : l.length = l.length := rfl
    have FIN := Lib.hid fin
    clear fin
    go_loopw [1, 5, 38] (fun x v i wr => ∃ (j : Nat) (A : Option Addr) (c : Nat), j ≤ 1 ∧ i = .int .i64 j ∧ x = .int .u64 (M / 256 ^ j) ∧ v = .slice A (l.length + j) c ∧ NewB w wr (.slice A (l.length + j) c) (l ++ dig j M)) (fun _ _ i _ => 1 - (intOf i).toNat)
    case atStart => exact ⟨0, A1, d1, by omega, rfl, by simp, rfl, by simp only [dig, List.append_nil]; exact hN1⟩
    case round =>
      obtain ⟨j, A3, c3, hj, rfl, rfl, rfl, hN⟩ := hrel
      by_cases hj2 : j < 1
      · have hpw : (0 : Int) < 256 ^ j := Int.pow_pos (by decide)
        have hV0 : 0 ≤ M / 256 ^ j := Int.ediv_nonneg (by omega) (by omega)
        have hV2 : M / 256 ^ j < 18446744073709551616 := Int.lt_of_le_of_lt (Int.ediv_le_self _ (by omega)) (by omega)
        have hnext : M / 256 ^ (j + 1) = M / 256 ^ j / 256 := by rw [Int.ediv_ediv_of_nonneg (by omega), Int.pow_succ]
        have hds := dig_snoc j M
        obtain ⟨V, hV⟩ : ∃ V, V = M / 256 ^ j := ⟨_, rfl⟩
        rw [← hV] at hV0 hV2 hnext hds ⊢
        obtain ⟨A4, c4, w4, hap, hN4⟩ := hN.push (by rw [List.length_append, dig_length, hPl]) (V % 256) (by omega)
        rw [List.append_assoc, ← hds] at hN4
        have HNX := Lib.hid hnext
        have HN := Lib.hid hN4
        clear hN4 hnext hds hV hpw hN
        go_wp2_with (at_builtin; refine wpList_append_run rfl _ _ 22 rfl _ _ _ _ rfl rfl hap ?_)
        go_roundw
        case rel => exact ⟨j + 1, A4, c4, by omega, by go_num, by rw [HNX.out], rfl, HN.out⟩
        case measure => simp [intOf]; omega
      · have ej : j = 1 := by omega
        subst ej
        go_wp2
        go_ret
        exact FIN.out _ _ hN
  · by_cases c2 : n < 16384
    · have he : enc n = dig 2 (4 * n + 1) := by unfold enc; rw [if_neg c1, if_pos c2]
      have hk : csz n = 2 := by unfold csz; rw [if_neg c1, if_pos c2]
      have ho := or1 n h1 (by omega)
      rw [hk] at hsz
      have fin : ∀ W v, NewB w W v (l ++ dig 2 (4 * n + 1)) → RowPost (l ++ enc n) w (.returned v) W := fun W v hh => ⟨v, rfl, by rw [he]; exact hh⟩
      have FIN := Lib.hid fin
      clear fin
      clear hk he h2
      go_enter Try.func22, Try.ntmps22
      go_wp2_with (go_at_call 46; refine hcl.mono ?_; rintro e w1 ⟨v1, rfl, hN1⟩)
      obtain ⟨A1, d1, rfl, _⟩ := hN1.form
      clear hcl
      go_wp2_with (go_at_call 24; refine (hsz _).mono ?_; rintro e w' ⟨rfl, rfl⟩)
      clear hsz
      obtain ⟨M, hM⟩ : ∃ M, M = 4 * n + 1 := ⟨_, rfl⟩
      have hM0 : 0 ≤ M ∧ M < 18446744073709551616 := by omega
      have fin := FIN.out
      rw [← hM] at fin ⊢
      clear hM FIN
      have hPl : l.length = l.length := rfl
      have FIN := Lib.hid fin
      clear fin
      go_loopw [1, 5, 38] (fun x v i wr => ∃ (j : Nat) (A : Option Addr) (c : Nat), j ≤ 2 ∧ i = .int .i64 j ∧ x = .int .u64 (M / 256 ^ j) ∧ v = .slice A (l.length + j) c ∧ NewB w wr (.slice A (l.length + j) c) (l ++ dig j M)) (fun _ _ i _ => 2 - (intOf i).toNat)
      case atStart => exact ⟨0, A1, d1, by omega, rfl, by simp, rfl, by simp only [dig, List.append_nil]; exact hN1⟩
      case round =>
        obtain ⟨j, A3, c3, hj, rfl, rfl, rfl, hN⟩ := hrel
        by_cases hj2 : j < 2
        · have hpw : (0 : Int) < 256 ^ j := Int.pow_pos (by decide)
          have hV0 : 0 ≤ M / 256 ^ j := Int.ediv_nonneg (by omega) (by omega)
          have hV2 : M / 256 ^ j < 18446744073709551616 := Int.lt_of_le_of_lt (Int.ediv_le_self _ (by omega)) (by omega)
          have hnext : M / 256 ^ (j + 1) = M / 256 ^ j / 256 := by rw [Int.ediv_ediv_of_nonneg (by omega), Int.pow_succ]
          have hds := dig_snoc j M
          obtain ⟨V, hV⟩ : ∃ V, V = M / 256 ^ j := ⟨_, rfl⟩
          rw [← hV] at hV0 hV2 hnext hds ⊢
          obtain ⟨A4, c4, w4, hap, hN4⟩ := hN.push (by rw [List.length_append, dig_length, hPl]) (V % 256) (by omega)
          rw [List.append_assoc, ← hds] at hN4
          have HNX := Lib.hid hnext
          have HN := Lib.hid hN4
          clear hN4 hnext hds hV hpw hN
          go_wp2_with (at_builtin; refine wpList_append_run rfl _ _ 22 rfl _ _ _ _ rfl rfl hap ?_)
          go_roundw
          case rel => exact ⟨j + 1, A4, c4, by omega, by go_num, by rw [HNX.out], rfl, HN.out⟩
          case measure => simp [intOf]; omega
        · have ej : j = 2 := by omega
          subst ej
          go_wp2
          go_ret
          exact FIN.out _ _ hN
    · by_cases c3 : n < 1073741824
      · have he : enc n = dig 4 (4 * n + 2) := by unfold enc; rw [if_neg c1, if_neg c2, if_pos c3]
        have hk : csz n = 4 := by unfold csz; rw [if_neg c1, if_neg c2, if_pos c3]
        have ho := or2 n h1 (by omega)
        rw [hk] at hsz
        have fin : ∀ W v, NewB w W v (l ++ dig 4 (4 * n + 2)) → RowPost (l ++ enc n) w (.returned v) W := fun W v hh => ⟨v, rfl, by rw [he]; exact hh⟩
        have FIN := Lib.hid fin
        clear fin
        clear hk he h2
        go_enter Try.func22, Try.ntmps22
        go_wp2_with (go_at_call 46; refine hcl.mono ?_; rintro e w1 ⟨v1, rfl, hN1⟩)
        obtain ⟨A1, d1, rfl, _⟩ := hN1.form
        clear hcl
        go_wp2_with (go_at_call 24; refine (hsz _).mono ?_; rintro e w' ⟨rfl, rfl⟩)
        clear hsz
        obtain ⟨M, hM⟩ : ∃ M, M = 4 * n + 2 := ⟨_, rfl⟩
        have hM0 : 0 ≤ M ∧ M < 18446744073709551616 := by omega
        have fin := FIN.out
        rw [← hM] at fin ⊢
        clear hM FIN
        have hPl : l.length = l.length := rfl
        have FIN := Lib.hid fin
        clear fin
        go_loopw [1, 5, 38] (fun x v i wr => ∃ (j : Nat) (A : Option Addr) (c : Nat), j ≤ 4 ∧ i = .int .i64 j ∧ x = .int .u64 (M / 256 ^ j) ∧ v = .slice A (l.length + j) c ∧ NewB w wr (.slice A (l.length + j) c) (l ++ dig j M)) (fun _ _ i _ => 4 - (intOf i).toNat)
        case atStart => exact ⟨0, A1, d1, by omega, rfl, by simp, rfl, by simp only [dig, List.append_nil]; exact hN1⟩
        case round =>
          obtain ⟨j, A3, c3, hj, rfl, rfl, rfl, hN⟩ := hrel
          by_cases hj2 : j < 4
          · have hpw : (0 : Int) < 256 ^ j := Int.pow_pos (by decide)
            have hV0 : 0 ≤ M / 256 ^ j := Int.ediv_nonneg (by omega) (by omega)
            have hV2 : M / 256 ^ j < 18446744073709551616 := Int.lt_of_le_of_lt (Int.ediv_le_self _ (by omega)) (by omega)
            have hnext : M / 256 ^ (j + 1) = M / 256 ^ j / 256 := by rw [Int.ediv_ediv_of_nonneg (by omega), Int.pow_succ]
            have hds := dig_snoc j M
            obtain ⟨V, hV⟩ : ∃ V, V = M / 256 ^ j := ⟨_, rfl⟩
            rw [← hV] at hV0 hV2 hnext hds ⊢
            obtain ⟨A4, c4, w4, hap, hN4⟩ := hN.push (by rw [List.length_append, dig_length, hPl]) (V % 256) (by omega)
            rw [List.append_assoc, ← hds] at hN4
            have HNX := Lib.hid hnext
            have HN := Lib.hid hN4
            clear hN4 hnext hds hV hpw hN
            go_wp2_with (at_builtin; refine wpList_append_run rfl _ _ 22 rfl _ _ _ _ rfl rfl hap ?_)
            go_roundw
            case rel => exact ⟨j + 1, A4, c4, by omega, by go_num, by rw [HNX.out], rfl, HN.out⟩
            case measure => simp [intOf]; omega
          · have ej : j = 4 := by omega
            subst ej
            go_wp2
            go_ret
            exact FIN.out _ _ hN
      · have hk2 := csz_cases n (by omega)
        obtain ⟨K, hK⟩ : ∃ K : Nat, csz n = K + 1 := ⟨csz n - 1, by omega⟩
        have hK4 : 4 ≤ K ∧ K ≤ 8 := by omega
        have he : l ++ enc n = (l ++ [((K : Int) - 4) * 4 + 3]) ++ dig K n := by unfold enc; rw [if_neg c1, if_neg c2, if_neg c3, hK, app_assoc1, Nat.add_sub_cancel]; congr 4; omega
        have ho := or3 ((K : Int) - 4) (by omega) (by omega)
        rw [hK] at hsz
        have fin : ∀ W v, NewB w W v ((l ++ [((K : Int) - 4) * 4 + 3]) ++ dig K n) → RowPost (l ++ enc n) w (.returned v) W := fun W v hh => ⟨v, rfl, by rw [he]; exact hh⟩
        have FIN := Lib.hid fin
        clear fin
        clear hK he hk2 c1 c2 c3
        go_enter Try.func22, Try.ntmps22
        go_wp2_with (go_at_call 46; refine hcl.mono ?_; rintro e w1 ⟨v1, rfl, hN1⟩)
        obtain ⟨A1, d1, rfl, _⟩ := hN1.form
        clear hcl
        obtain ⟨A2, d2, w2, hap, hN2⟩ := hN1.push rfl (((K : Int) - 4) * 4 + 3) (by omega)
        go_wp2_with (first | (go_at_call 24; refine (hsz _).mono ?_; rintro e w' ⟨rfl, rfl⟩) | (at_builtin; refine wpList_append_run rfl _ _ 22 rfl _ _ _ _ rfl rfl hap ?_))
        clear hap hN1
        clear hsz
        rename Int => M
        have hM0 : 0 ≤ M ∧ M < 18446744073709551616 := by omega
        have fin := FIN.out
        clear FIN
        obtain ⟨P, hP⟩ : ∃ P, P = (l ++ [((K : Int) - 4) * 4 + 3]) := ⟨_, rfl⟩
        have hPl : P.length = (l.length + 1) := by rw [hP]; simp
        rw [← hP] at hN2 fin
        clear hP
        have FIN := Lib.hid fin
        clear fin
        go_loopw [1, 5, 38] (fun x v i wr => ∃ (j : Nat) (A : Option Addr) (c : Nat), j ≤ K ∧ i = .int .i64 j ∧ x = .int .u64 (M / 256 ^ j) ∧ v = .slice A ((l.length + 1) + j) c ∧ NewB w wr (.slice A ((l.length + 1) + j) c) (P ++ dig j M)) (fun _ _ i _ => K - (intOf i).toNat)
        case atStart => exact ⟨0, A2, d2, by omega, rfl, by simp, rfl, by simp only [dig, List.append_nil]; exact hN2⟩
        case round =>
          obtain ⟨j, A3, c3, hj, rfl, rfl, rfl, hN⟩ := hrel
          by_cases hj2 : j < K
          · have hpw : (0 : Int) < 256 ^ j := Int.pow_pos (by decide)
            have hV0 : 0 ≤ M / 256 ^ j := Int.ediv_nonneg (by omega) (by omega)
            have hV2 : M / 256 ^ j < 18446744073709551616 := Int.lt_of_le_of_lt (Int.ediv_le_self _ (by omega)) (by omega)
            have hnext : M / 256 ^ (j + 1) = M / 256 ^ j / 256 := by rw [Int.ediv_ediv_of_nonneg (by omega), Int.pow_succ]
            have hds := dig_snoc j M
            obtain ⟨V, hV⟩ : ∃ V, V = M / 256 ^ j := ⟨_, rfl⟩
            rw [← hV] at hV0 hV2 hnext hds ⊢
            obtain ⟨A4, c4, w4, hap, hN4⟩ := hN.push (by rw [List.length_append, dig_length, hPl]) (V % 256) (by omega)
            rw [List.append_assoc, ← hds] at hN4
            have HNX := Lib.hid hnext
            have HN := Lib.hid hN4
            clear hN4 hnext hds hV hpw hN
            go_wp2_with (at_builtin; refine wpList_append_run rfl _ _ 22 rfl _ _ _ _ rfl rfl hap ?_)
            go_roundw
            case rel => exact ⟨j + 1, A4, c4, by omega, by go_num, by rw [HNX.out], rfl, HN.out⟩
            case measure => simp [intOf]; omega
          · have ej : j = K := by omega
            subst ej
            go_wp2
            go_ret
            exact FIN.out _ _ hN
end Go.Proofs.Ytcdbchdlenkdgaa
