/- Compact numbers: List, and the document's. -/
import Derived.Test.YtcdbchdlenkdgaaAp
import Derived.Test.YtcdbchdlenkdgaaCl
set_option linter.unusedVariables false
set_option linter.unusedSimpArgs false
namespace Go.Proofs.Ytcdbchdlenkdgaa
open Go.RowKit Go.Ps

def AllU (l : List Int) : Prop := ∀ x ∈ l, U64' x
theorem AllU.getD {l : List Int} (h : AllU l) (k : Nat) : U64' (l.getD k 0) := by
  rw [List.getD_eq_getElem?_getD]
  cases hg : l[k]? with
  | none => exact ⟨by simp, by simp⟩
  | some y => exact h y (List.mem_of_getElem? hg)
theorem len_u64 {l : List Int} (h : l.length ≤ 200000000000000) : U64' (l.length : Int) := ⟨by omega, by omega⟩
set_option maxRecDepth 20000 in
set_option maxHeartbeats 1000000 in
theorem list_any (w : World) (A B : Option Addr) (c d : Nat) (b l : List Int) (hr : ReadsI w .u8 A b) (hrl : ReadsI w .u64 B l) (hu : AllU l) (hl : b.length + 9 * l.length + 9 ≤ 200000000000000) : Calls Try.prog 25 #[.slice A b.length c, .slice B l.length d] w (RowPost (b ++ encL l) w) := by
  have ha := append_any w A c b l.length hr (by omega) (len_u64 (by omega))
  have HR := Lib.hid hr
  have HL := Lib.hid hrl
  have HU := Lib.hid hu
  clear hr hrl hu
  go_enter Try.func25, Try.ntmps25
  go_wp2_with (go_at_call 22; refine ha.mono ?_; rintro e w1 ⟨v1, rfl, hN1⟩)
  obtain ⟨A1, n1, d1, rfl, hn1, _⟩ := New.form3 hN1
  have HN1 := Lib.hid hn1
  clear ha hn1
  go_loopw [0, 14] (fun v i wr => ∃ (k n : Nat) (A : Option Addr) (c : Nat), k ≤ l.length ∧ i = .int .i64 k ∧ v = .slice A n c ∧ NewB w wr (.slice A n c) (b ++ enc l.length ++ encs (l.take k))) (fun _ i _ => l.length - (intOf i).toNat)
  case atStart => exact ⟨0, n1, A1, d1, by omega, rfl, rfl, by simpa [encs] using hN1⟩
  case round =>
    obtain ⟨k, m, A3, c3, hk, rfl, rfl, hN⟩ := hrel
    by_cases hk2 : k < l.length
    · obtain ⟨g, o, rfl, hx⟩ := HL.out.plain (by rintro rfl; simp at hk2)
      obtain ⟨_, _, he, hrA⟩ := hN.form
      cases he
      have hcell := chg_cell hN.2.1 (hx k hk2) id
      have hn := HU.out.getD k
      have hs := encs_take l k hk2
      have hlen := encs_take_length l k
      obtain ⟨M, hM⟩ : ∃ M, M = b ++ enc l.length ++ encs (l.take k) := ⟨_, rfl⟩
      have hs2 : M ++ enc (l.getD k 0) = b ++ enc l.length ++ encs (l.take (k + 1)) := by rw [hs, hM]; simp
      have hMl : M.length ≤ b.length + 9 + 9 * k := by
        have := csz_le l.length
        rw [hM, List.length_append, List.length_append, enc_length]
        omega
      rw [← hM] at hN hrA ⊢
      obtain ⟨n, hne⟩ : ∃ n, n = l.getD k 0 := ⟨_, rfl⟩
      rw [← hne] at hcell hn hs2
      have ha := append_any wr A3 c3 M n hrA (by omega) hn
      have HS := Lib.hid hs2
      have HN := Lib.hid hN
      clear hs hM hne hs2 hrA hN hx hlen
      go_wp2_with (go_at_call 22; refine ha.mono ?_; rintro e w2 ⟨v2, rfl, hN2⟩)
      obtain ⟨A4, n4, d4, rfl, _, _⟩ := New.form3 hN2
      have hf := hN2.after HN.out.2.1
      rw [HS.out] at hf
      go_roundw
      case rel => exact ⟨k + 1, n4, A4, d4, by omega, by go_num, rfl, hf⟩
      case measure => simp [intOf]; omega
    · have ej : k = l.length := by omega
      subst ej
      rw [List.take_of_length_le (Nat.le_refl _)] at hN
      have fin : RowPost (b ++ encL l) w (.returned (.slice A3 m c3)) wr := ⟨_, rfl, by unfold encL; rw [← List.append_assoc]; exact hN⟩
      have FIN := Lib.hid fin
      clear fin hN
      go_wp2
      go_ret
      exact FIN.out
theorem NewB.app {w wr : World} {A B : Option Addr} {c cB L N : Nat} {m x : List Int} (h : NewB w wr (.slice A L c) m) (hl : m.length = L) (hN : x.length = N) (hr : ReadsI wr .u8 B x) (hb : L + N ≤ 200000000000000) :
    ∃ A2 c2 n2 w2, (Builtin.append_ #[22, 22] 22 #[.slice A L c, .slice B N cB]).run Try.prog wr = .ok (.slice A2 n2 c2) w2 ∧ NewB w w2 (.slice A2 n2 c2) (m ++ x) := by
  subst hN
  obtain ⟨A2, c2, w2, h1, h2⟩ := New.app (cB := cB) h Try.underlying22 info5 hl hr (by omega) (by omega)
  exact ⟨A2, c2, _, w2, h1, h2⟩
set_option maxRecDepth 20000 in
set_option maxHeartbeats 1000000 in
theorem rlist_any (w : World) (B : Option Addr) (d : Nat) (l : List Int) (hrl : ReadsI w .u64 B l) (hu : AllU l) (hl : 9 * l.length + 9 ≤ 200000000000000) : Calls Try.prog 26 #[.slice B l.length d] w (RowPost (encL l) w) := by
  have ha := number_any l.length w (len_u64 (by omega))
  have HL := Lib.hid hrl
  have HU := Lib.hid hu
  clear hrl hu
  go_enter Try.func26, Try.ntmps26
  go_wp2_with (go_at_call 23; refine ha.mono ?_; rintro e w1 ⟨v1, rfl, hN1⟩)
  obtain ⟨A1, n1, d1, rfl, hn1, _⟩ := New.form3 hN1
  have HN1 := Lib.hid hn1
  clear ha hn1
  go_loopw [3, 11] (fun v i wr => ∃ (k n : Nat) (A : Option Addr) (c : Nat), k ≤ l.length ∧ i = .int .i64 k ∧ v = .slice A n c ∧ NewB w wr (.slice A n c) (enc l.length ++ encs (l.take k))) (fun _ i _ => l.length - (intOf i).toNat)
  case atStart => exact ⟨0, n1, A1, d1, by omega, rfl, rfl, by simpa [encs] using hN1⟩
  case round =>
    obtain ⟨k, m, A3, c3, hk, rfl, rfl, hN⟩ := hrel
    by_cases hk2 : k < l.length
    · obtain ⟨g, o, rfl, hx⟩ := HL.out.plain (by rintro rfl; simp at hk2)
      have hml := (New.cap hN).1
      have hcell := chg_cell hN.2.1 (hx k hk2) id
      have hn := HU.out.getD k
      have hs := encs_take l k hk2
      have hlen := encs_take_length l k
      obtain ⟨M, hM⟩ : ∃ M, M = enc l.length ++ encs (l.take k) := ⟨_, rfl⟩
      have hs2 : M ++ enc (l.getD k 0) = enc l.length ++ encs (l.take (k + 1)) := by rw [hs, hM]; simp
      have hMl : M.length ≤ 9 + 9 * k := by
        have := csz_le l.length
        rw [hM, List.length_append, enc_length]
        omega
      rw [← hM] at hN hml
      obtain ⟨n, hne⟩ : ∃ n, n = l.getD k 0 := ⟨_, rfl⟩
      rw [← hne] at hcell hn hs2
      have ha : Calls Try.prog 23 #[.int .u64 n] wr (fun e w2 => ∃ A4 n4 d4 A5 n5 c5 w5, e = .returned (.slice A4 n4 d4) ∧ (Builtin.append_ #[22, 22] 22 #[.slice A3 m c3, .slice A4 n4 d4]).run Try.prog w2 = .ok (.slice A5 n5 c5) w5 ∧ NewB w w5 (.slice A5 n5 c5) (M ++ enc n)) := by
        refine (number_any n wr hn).mono ?_
        rintro e w2 ⟨v2, rfl, hN2⟩
        obtain ⟨A4, n4, d4, rfl, hn4, hr4⟩ := New.form3 hN2
        have hcn := csz_le n
        rw [enc_length] at hn4
        obtain ⟨A5, c5, n5, w5, h1, h2⟩ := NewB.app (cB := d4) (N := n4) (New.chg hN hN2.2.1) hml.symm (by rw [enc_length]; exact hn4.symm) hr4 (by omega)
        exact ⟨A4, n4, d4, A5, n5, c5, w5, rfl, h1, h2⟩
      have HS := Lib.hid hs2
      clear hs hM hne hs2 hN hx hlen hml hMl
      go_wp2_with (first | (go_at_call 23; refine ha.mono ?_; rintro e w2 ⟨A4, n4, d4, A5, n5, c5, w5, rfl, hap, hN5⟩) | (at_builtin; refine wpList_append_run rfl _ _ 22 rfl _ _ _ _ rfl rfl hap ?_))
      rw [HS.out] at hN5
      go_roundw
      case rel => exact ⟨k + 1, n5, A5, c5, by omega, by go_num, rfl, hN5⟩
      case measure => simp [intOf]; omega
    · have ej : k = l.length := by omega
      subst ej
      rw [List.take_of_length_le (Nat.le_refl _)] at hN
      have fin : RowPost (encL l) w (.returned (.slice A3 m c3)) wr := ⟨_, rfl, by unfold encL; exact hN⟩
      have FIN := Lib.hid fin
      clear fin hN
      go_wp2
      go_ret
      exact FIN.out
end Go.Proofs.Ytcdbchdlenkdgaa
