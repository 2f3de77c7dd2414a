/- The laws CompactLists, CompactTakesLists: their walks. -/
import Derived.Test.YtcdbchdlenkdgaaL5
set_option linter.unusedVariables false
set_option linter.unusedSimpArgs false
namespace Go.Proofs.Ytcdbchdlenkdgaa
open Go.RowKit Go.Ps

theorem tks_encs (l : List Int) : ∀ (m r : List Int) (i : Nat) (acc : List Int), AllU m → l.drop i = encs m ++ r → tks l m.length i acc = (acc ++ m, ((i + (encs m).length : Nat) : Int), 0)
  | [], r, i, acc, _, _ => by simp [tks, encs]
  | x :: m, r, i, acc, hu, hd => by
    have h1 : tk (l.drop i) = (x, (csz x : Int), 0) := by rw [hd, encs, List.append_assoc]; exact tk_enc (hu x (by simp)) _
    have h2 : l.drop (i + csz x) = encs m ++ r := by
      rw [← List.drop_drop, hd, encs, List.append_assoc, ← enc_length x, List.drop_left']
      rfl
    rw [List.length_cons, tks_step, h1]
    simp only [if_pos, Int.toNat_natCast]
    rw [tks_encs l m r _ _ (fun y hy => hu y (by simp [hy])) h2]
    simp only [encs, List.append_assoc, List.cons_append, List.nil_append, List.length_append, enc_length]
    congr 2
    omega
theorem tkl_encL (L : List Int) (most : Int) (hu : AllU L) (hl : L.length ≤ 200000000000000) : tkl (encL L) most = if most < L.length then ([], 0, 4) else (L, ((encL L).length : Int), 0) := by
  have h1 : tk (encL L) = ((L.length : Int), (csz L.length : Int), 0) := tk_enc (len_u64 hl) _
  unfold tkl
  rw [h1]
  simp only [if_pos, Int.toNat_natCast]
  by_cases h : most < L.length
  · rw [if_pos (Or.inr h), if_pos h]
  · rw [if_neg (by omega), if_neg h]
    rw [tks_encs (encL L) L [] _ [] hu (by rw [List.append_nil]; unfold encL; rw [← enc_length (L.length : Int), List.drop_left'] ; rfl)]
    simp only [List.nil_append, encL, List.length_append, enc_length]
set_option maxHeartbeats 2000000 in
theorem compactLists_walk (A : Option Addr) (c : Nat) (l : List Int) (B : Option Addr) (d : Nat) (L : List Int) (most : Int) (w : World) (hr : ReadsI w .u8 A l) (hw : ∀ x ∈ l, (Lit.int .u8 x).wf = true) (hy : l.length * 1 ≤ 140737488351232) (hc : l.length ≤ c)
    (hr2 : ReadsI w .u64 B L) (hw2 : ∀ x ∈ L, (Lit.int .u64 x).wf = true) (hy2 : L.length * 8 ≤ 140737488351232) (hc2 : L.length ≤ d) (hm : (Lit.int .i64 most).wf = true) :
    Calls Try.prog 8 #[.slice A l.length c, .slice B L.length d, .int .i64 most] w fun e w' => e = .returned (.bool true) ∧ Below w.heap.size w w' := by
  have hu : AllU L := fun x hx => u64_of_wf (hw2 x hx)
  have hmm : -9223372036854775808 ≤ most ∧ most ≤ 9223372036854775807 := by have := Go.bounds_i64 hm; omega
  have hl1 : l.length ≤ 140737488351232 := by omega
  by_cases hL : 1000 < L.length
  · have hLB : L.length ≤ 140737488351232 := by omega
    clear hr hw hy hr2 hw2 hy2 hm hu
    go_enter Try.func8, Try.ntmps8
    go_wp2_with (go_at_call 16; refine (awake_any w).mono ?_; rintro e1 w1 ⟨rfl, hb1⟩)
    refine (awake_any w1).mono ?_
    rintro e2 w2 ⟨rfl, hb2⟩
    go_wp2
    go_ret
    exact ⟨rfl, hb1.trans (hb2.mono hb1.size)⟩
  · have hlen := encL_length L
    have h1 := fun W (hW : Chg (fun _ => False) w W) => list_any W A B c d l L (hr.chg hW (fun _ _ => id)) (hr2.chg hW (fun _ _ => id)) hu (by omega)
    have h2 := fun W (hW : Chg (fun _ => False) w W) => rlist_any W B d L (hr2.chg hW (fun _ _ => id)) hu (by omega)
    obtain ⟨K, hK⟩ : ∃ K, K = (encL L).length := ⟨_, rfl⟩
    rw [← hK] at hlen
    obtain ⟨S, hS⟩ : ∃ S, S = strOf (encL L) := ⟨_, rfl⟩
    obtain ⟨Lb, hLb⟩ : ∃ S, S = strOf l := ⟨_, rfl⟩
    obtain ⟨X, hX⟩ : ∃ S, S = strOf (l ++ encL L) := ⟨_, rfl⟩
    have hEq : (X.toList == (Lb ++ S).toList) = true := by rw [hX, hLb, hS, strOf_append]; simp
    have hSz : S.size = K := by rw [hS, strOf_size, hK]
    have hcat := cat_run Lb S (by rw [hLb, hSz, strOf_size]; omega)
    have HR := Lib.hid hr
    have HR2 := Lib.hid hr2
    have HU := Lib.hid hu
    have HS := Lib.hid hS
    have HL := Lib.hid hLb
    have HX := Lib.hid hX
    have HK := Lib.hid hK
    clear hr hw hy hr2 hw2 hy2 hm hu hS hLb hX hK
    go_enter Try.func8, Try.ntmps8
    go_wp2_with (go_at_call 16; refine (awake_any w).mono ?_; rintro e1 w1 ⟨rfl, hb1⟩)
    refine (h1 _ (chg_of hb1)).mono ?_
    rintro e2 w2 ⟨v2, rfl, hN2⟩
    obtain ⟨A2, n2, d2, rfl, hn2, hr2⟩ := New.form3 hN2
    have HC2 := Lib.hid (chg_trans (chg_of hb1) hN2.2.1)
    have HN2 := Lib.hid hn2
    clear hn2 h1
    go_wp2_with fail
    refine (h2 _ HC2.out).mono ?_
    rintro e3 w3 ⟨v3, rfl, hN3⟩
    obtain ⟨A3, n3, d3, rfl, hn3, hr3⟩ := New.form3 hN3
    have HC3 := Lib.hid hN3.2.1
    have hs3 : (convert 22 9 (.slice A3 n3 d3)).run Try.prog w3 = .ok (.string S) w3 := by
      rw [HS.out]
      exact str_at hr3 hn3 (Chg.refl _ _)
    obtain ⟨c4, w4, hcv, hr4, hc4, hC4, _, _, _⟩ := toBytes w3 (encL_bytes L) (by rw [← HK.out]; omega)
    have h19 := takelist_any w4 (some ⟨w3.heap.size, 0, none⟩) c4 (encL L) most hr4 (encL_bytes L) (by rw [← HK.out]; omega) hc4 hmm
    rw [tkl_encL L most HU.out (by omega), ← HK.out] at h19
    rw [← HS.out, ← HK.out] at hcv
    have HC4 := Lib.hid hC4
    clear hn3 hC4 hr4 hc4 h2 hN3 hr3 hN2
    by_cases hmo : most < L.length
    · rw [if_pos hmo] at h19
      go_wp2_with fail
      refine h19.mono ?_
      rintro e5 w5 ⟨v5, rfl, hN5⟩
      obtain ⟨A5, n5, d5, rfl, hn5, hr5⟩ := New.form3 hN5
      simp only [List.length_nil] at hn5
      subst hn5
      have hC5 := chg_trans (chg_trans HC3.out HC4.out) hN5.2.1
      have hs6 : (convert 22 9 (.slice A2 n2 d2)).run Try.prog w5 = .ok (.string X) w5 := by
        rw [HX.out]
        exact str_at hr2 HN2.out hC5
      have hs7 : (convert 22 9 (.slice A l.length c)).run Try.prog w5 = .ok (.string Lb) w5 := by
        rw [HL.out]
        exact str_at HR.out rfl (chg_trans HC2.out hC5)
      have HC5 := Lib.hid hC5
      clear hC5 hs3 hcv h19 hr2 hr5 hN5
      simp only []
      go_wp2
      go_ret
      exact ⟨rfl, chg_to_below (chg_trans HC2.out HC5.out)⟩
    · rw [if_neg hmo] at h19
      go_wp2_with fail
      refine h19.mono ?_
      rintro e5 w5 ⟨v5, rfl, hN5⟩
      obtain ⟨A5, n5, d5, rfl, hn5, hr5⟩ := New.form3 hN5
      simp only at hn5
      subst hn5
      have hC5 := chg_trans (chg_trans HC3.out HC4.out) hN5.2.1
      have hs6 : (convert 22 9 (.slice A2 n2 d2)).run Try.prog w5 = .ok (.string X) w5 := by
        rw [HX.out]
        exact str_at hr2 HN2.out hC5
      have hs7 : (convert 22 9 (.slice A l.length c)).run Try.prog w5 = .ok (.string Lb) w5 := by
        rw [HL.out]
        exact str_at HR.out rfl (chg_trans HC2.out hC5)
      have h21 := same_any w5 A5 B d5 d L hr5 (HR2.out.chg (chg_trans HC2.out hC5) (fun _ _ => id)) (by omega)
      have HC5 := Lib.hid hC5
      clear hC5 hs3 hcv h19 hr2 hr5 hN5
      simp only []
      go_wp2_with fail
      refine h21.mono ?_
      rintro e6 w6 ⟨rfl, hC6⟩
      have HC6 := Lib.hid hC6
      clear hC6
      go_wp2
      go_ret
      exact ⟨rfl, chg_to_below (chg_trans (chg_trans HC2.out HC5.out) HC6.out)⟩
end Go.Proofs.Ytcdbchdlenkdgaa
