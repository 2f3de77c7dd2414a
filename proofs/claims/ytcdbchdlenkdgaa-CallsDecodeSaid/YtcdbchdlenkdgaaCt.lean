/- Calls: the reference's take. -/
import Derived.Test.YtcdbchdlenkdgaaCd
import Derived.Test.YtcdbchdlenkdgaaTl
import Derived.Test.YtcdbchdlenkdgaaL5
set_option linter.unusedVariables false
set_option linter.unusedSimpArgs false
namespace Go.Proofs.Ytcdbchdlenkdgaa
open Go.RowKit Go.Ps

theorem rnums_stay (m : Int) (s : List Int × Bool) (j : Nat) (h : (rnums m j s).2.2 = true) : ∀ k, j ≤ k → (rnums m k s).2.2 = true := by
  intro k hk
  induction k with
  | zero => obtain rfl : j = 0 := by omega
            exact h
  | succ k ih =>
    rcases Nat.lt_or_ge k j with h1 | h1
    · obtain rfl : j = k + 1 := by omega
      exact h
    · have := ih h1
      rw [rnums_snoc]
      cases hq : (rnum (rnums m k s).2 m).2.2 with
      | true => rfl
      | false => rw [rnum_state _ _ hq] at this; cases this
theorem rnumU {l : List Int} (hb : Bytes l) : rnum (l, false) mostU = if (tk l).2.2 = 0 then ((tk l).1, (l.drop (tk l).2.1.toNat, false)) else (0, (l, true)) := by
  unfold rnum
  by_cases h : (tk l).2.2 = 0
  · have hu : (tk l).1 ≤ mostU := by
      rcases tk_facts hb with h1 | h1
      · have := h1.2.1.2; unfold mostU; omega
      · rw [h1.2.1]; unfold mostU; omega
    simp [h, hu]
  · simp [h]
/-- what take answers -/
def TNPost (r : List Int × List Int × Bool) (w : World) (e : Ending) (w' : World) : Prop :=
  (r.2.2 = true ∧ e = .returned (.tuple #[.slice none 0 0, .slice none 0 0, .bool false]) ∧ Chg (fun _ => False) w w') ∨
  (r.2.2 = false ∧ ∃ v A n c, e = .returned (.tuple #[v, .slice A n c, .bool true]) ∧ n = r.2.1.length ∧ n ≤ c ∧ ReadsI w .u8 A r.2.1 ∧ New 24 .u64 w w' v r.1)
set_option maxRecDepth 20000 in
set_option maxHeartbeats 2000000 in
theorem taken_any (w : World) (A : Option Addr) (c : Nat) (l : List Int) (k : Nat) (hr : ReadsI w .u8 A l) (hb : Bytes l) (hl : l.length ≤ 20000000000) (hcap : l.length ≤ c) (hk : k ≤ 1000) : Calls Try.prog 58 #[.slice A l.length c, .int .i64 k] w (TNPost (rnums mostU k (l, false)) w) := by
  obtain ⟨L, hL⟩ : ∃ L, L = l.length := ⟨_, rfl⟩
  rw [← hL] at hl hcap ⊢
  have HR := Lib.hid hr
  have HB := Lib.hid hb
  have HL := Lib.hid hL
  clear hr hb hL
  go_enter Try.func58, Try.ntmps58
  go_wp2
  go_loopw [0, 7, 12] (fun b v i wr => ∃ (j n m : Nat) (ls rest : List Int) (A1 A2 : Option Addr) (c1 c2 : Nat), j ≤ k ∧ i = .int .i64 j ∧ b = .slice A1 n c1 ∧ n = rest.length ∧ n ≤ L ∧ n ≤ c1 ∧ Bytes rest ∧ ReadsI w .u8 A1 rest ∧ rnums mostU j (l, false) = (ls, (rest, false)) ∧ m = ls.length ∧ m = j ∧ v = .slice A2 m c2 ∧ New 24 .u64 w wr (.slice A2 m c2) ls) (fun _ _ i _ => k - (intOf i).toNat)
  case atStart => exact ⟨0, L, 0, [], l, A, none, c, 0, by omega, rfl, rfl, HL.out, by omega, hcap, HB.out, HR.out, rfl, rfl, rfl, rfl, New.nil _ _ _⟩
  case round =>
    obtain ⟨j, n, m, ls, rest, A1, A2, c1, c2, hj, rfl, rfl, hn, hnL, hnc, hbr, hrr, hrs, hm, hmj, rfl, hN⟩ := hrel
    obtain rfl : j = m := hmj.symm
    clear hmj
    by_cases hjk : j < k
    · have h18 := rtake_any wr A1 c1 rest (hrr.chg hN.2.1 (fun _ _ => id)) hbr (by omega) (by omega)
      have hU := rnumU hbr
      have hf := tk_facts hbr
      have hsn := rnums_snoc mostU j (l, false)
      rw [hrs] at hsn
      simp only at hsn
      rw [hU] at hsn
      unfold RTkPost at h18
      rw [← hn] at h18 hf
      obtain ⟨t, ht⟩ : ∃ t, t = tk rest := ⟨_, rfl⟩
      rw [← ht] at h18 hf hsn
      obtain ⟨x, kk, e⟩ := t
      simp only at hf h18 hsn
      by_cases he : e = 0
      · subst he
        have hf' : U64' x ∧ 1 ≤ kk ∧ kk ≤ (n : Int) := by
          rcases hf with h | h
          · exact ⟨h.2.1, h.2.2.1, h.2.2.2.2.1⟩
          · omega
        obtain ⟨hu, hk1, hk2⟩ := hf'
        obtain ⟨K, rfl⟩ : ∃ K : Nat, kk = (K : Int) := ⟨kk.toNat, by omega⟩
        rw [if_pos rfl, Int.toNat_natCast] at hsn
        simp only at hsn
        have hKn : K ≤ n := by omega
        have hsl := fun W => run_cutL (P := Try.prog) (ki := .i64) Try.underlying22 size5 A1 n c1 K hKn hnc W
        have hcut := cutA_sub hrr K rest.length (Nat.le_refl _) (c := c1) (by omega)
        rw [List.take_length] at hcut
        have hbd := hbr.drop K
        have hpush := fun W (hW : Chg (fun _ => False) wr W) => New.push (P := Try.prog) (t := 29) (hN.chg hW) Try.underlying29 info24 hm.symm x (by omega) (by omega)
        have HP := Lib.hid hpush
        have HN := Lib.hid hN
        have HS := Lib.hid hsn
        have HC := Lib.hid hcut
        have HBD := Lib.hid hbd
        have H1 := Lib.hid hn
        have HM := Lib.hid hm
        clear hpush hN hsn hcut hbd hn hm hrs hf ht hU hbr hrr hu
        go_wp2_with fail
        refine h18.mono ?_
        rintro e1 w1 ⟨rfl, hC1⟩
        obtain ⟨A4, c4, w4, hap, hN4⟩ := HP.out w1.drew (hC1.drew)
        have HN4 := Lib.hid hN4
        clear hN4 hC1 h18
        simp only []
        go_wp2_with fail
        go_region_law (refine step_append_run rfl _ _ 29 rfl _ _ _ _ rfl rfl hap ?_)
        go_wp2
        go_roundw
        case rel => exact ⟨j + 1, n - K, j + 1, ls ++ [x], rest.drop K, _, A4, _, c4, by omega, by go_num, rfl, by rw [List.length_drop, ← H1.out], by omega, by omega, HBD.out, HC.out, HS.out, by rw [List.length_append, ← HM.out]; rfl, rfl, rfl, HN4.out⟩
        case measure => simp [intOf]; omega
      · rw [if_neg he] at hsn
        have hbad : (rnums mostU k (l, false)).2.2 = true := rnums_stay _ _ (j + 1) (by rw [hsn]) k (by omega)
        have HBAD := Lib.hid hbad
        have HN := Lib.hid hN
        clear hN hsn hbad hn hm hrs hf ht hU hbr hrr
        go_wp2_with fail
        refine h18.mono ?_
        rintro e1 w1 ⟨rfl, hC1⟩
        have HC1 := Lib.hid hC1
        clear hC1 h18
        simp only []
        go_wp2
        go_ret3
        exact Or.inl ⟨HBAD.out, rfl, chg_trans HN.out.2.1 HC1.out⟩
    · obtain rfl : j = k := by omega
      have fin : TNPost (rnums mostU j (l, false)) w (.returned (.tuple #[.slice A2 j c2, .slice A1 n c1, .bool true])) wr := Or.inr ⟨by rw [hrs], _, _, _, _, rfl, by rw [hrs]; exact hn, hnc, by rw [hrs]; exact hrr, by rw [hrs]; exact hN⟩
      have FIN := Lib.hid fin
      clear fin hrs hn hnL hnc hbr hrr hm hN
      go_wp2
      go_ret3
      exact FIN.out
end Go.Proofs.Ytcdbchdlenkdgaa
