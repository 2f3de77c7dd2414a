/- The laws CompactAppends, CompactCuts, CompactRises, CompactLists: their walks. -/
import Derived.Test.YtcdbchdlenkdgaaLy
set_option linter.unusedVariables false
set_option linter.unusedSimpArgs false
namespace Go.Proofs.Ytcdbchdlenkdgaa
open Go.RowKit Go.Ps

theorem str_at {w W : World} {A : Option Addr} {l : List Int} {n c : Nat} (h : ReadsI w .u8 A l) (hn : n = l.length) (hC : Chg (fun _ => False) w W) : (convert 22 9 (.slice A n c)).run Try.prog W = .ok (.string (strOf l)) W := by
  subst hn
  exact str_of c (h.chg hC (fun _ _ => id))
theorem chg_drewN (w : World) (n : Nat) : Chg (fun _ => False) w (w.drewN n) := (Chg.refl _ _).drewN n
theorem chg_trans {a b c : World} (h : Chg (fun _ => False) a b) (k : Chg (fun _ => False) b c) : Chg (fun _ => False) a c := h.trans k (fun _ _ => id)
theorem chg_to_below {a b : World} (h : Chg (fun _ => False) a b) : Below a.heap.size a b := h.below (fun _ hk => ⟨hk, id⟩)
theorem cat_run (s t : ByteArray) (h : s.size + t.size ≤ 9223372036854775807) (W : World) : (Op.stringOp .add s t).run Try.prog W = .ok (.string (s ++ t)) W := run_string_add_sum W s t h
set_option maxRecDepth 20000 in
set_option maxHeartbeats 1000000 in
theorem compactAppends_walk (A : Option Addr) (c : Nat) (l : List Int) (n : Int) (B : Option Addr) (d : Nat) (m : List Int) (w : World) (hr : ReadsI w .u8 A l) (hw : ∀ x ∈ l, (Lit.int .u8 x).wf = true) (hy : l.length * 1 ≤ 140737488351232) (hc : l.length ≤ c) (hn : (Lit.int .u64 n).wf = true)
    (hr2 : ReadsI w .u8 B m) (hw2 : ∀ x ∈ m, (Lit.int .u8 x).wf = true) (hy2 : m.length * 1 ≤ 140737488351232) (hc2 : m.length ≤ d) :
    Calls Try.prog 5 #[.slice A l.length c, .int .u64 n, .slice B m.length d] w fun e w' => e = .returned (.bool true) ∧ Below w.heap.size w w' := by
  have hb := bytes_of_wf hw
  have hb2 := bytes_of_wf hw2
  have hu := u64_of_wf hn
  have hcs := csz_le n
  have hl1 : l.length ≤ 140737488351232 := by omega
  have hl2 : m.length ≤ 140737488351232 := by omega
  have h1 := fun W (hW : Chg (fun _ => False) w W) => append_any W A c l n (hr.chg hW (fun _ _ => id)) (by omega) hu
  have h2 := fun W => number_any n W hu
  have h3 := fun W => size_any n W hu
  have HR := Lib.hid hr
  have HR2 := Lib.hid hr2
  have HB := Lib.hid hb
  have HB2 := Lib.hid hb2
  obtain ⟨S, hS⟩ : ∃ S, S = strOf (enc n) := ⟨_, rfl⟩
  obtain ⟨L, hL⟩ : ∃ S, S = strOf l := ⟨_, rfl⟩
  obtain ⟨X, hX⟩ : ∃ S, S = strOf (l ++ enc n) := ⟨_, rfl⟩
  obtain ⟨K, hK⟩ : ∃ K, K = csz n := ⟨_, rfl⟩
  have hEq : (X.toList == (L ++ S).toList) = true := by rw [hX, hL, hS, strOf_append]; simp
  have hSz : S.size = K := by rw [hS, strOf_size, enc_length, hK]
  have hcat := cat_run L S (by rw [hL, hSz, hK, strOf_size]; omega)
  have HS := Lib.hid hS
  have HL := Lib.hid hL
  have HX := Lib.hid hX
  rw [← hK] at h3 hcs
  have HK := Lib.hid hK
  clear hr hw hy hr2 hw2 hy2 hb hb2 hS hL hX hK hn
  go_enter Try.func5, Try.ntmps5
  go_wp2_with (go_at_call 16; refine (awake_any w).mono ?_; rintro e1 w1 ⟨rfl, hb1⟩)
  refine (h1 _ (chg_of hb1)).mono ?_
  rintro e2 w2 ⟨v2, rfl, hN2⟩
  obtain ⟨A2, n2, d2, rfl, hn2, hr2⟩ := New.form3 hN2
  have HC2 := Lib.hid (chg_trans (chg_of hb1) hN2.2.1)
  have HN2 := Lib.hid hn2
  clear hn2 h1
  go_wp2_with fail
  refine (h2 _).mono ?_
  rintro e3 w3 ⟨v3, rfl, hN3⟩
  obtain ⟨A3, n3, d3, rfl, hn3, hr3⟩ := New.form3 hN3
  have HC3 := Lib.hid hN3.2.1
  have hs3 : (convert 22 9 (.slice A3 n3 d3)).run Try.prog w3 = .ok (.string S) w3 := by
    rw [HS.out]
    exact str_at hr3 hn3 (Chg.refl _ _)
  have hrm := HR2.out.chg (chg_trans HC2.out HC3.out) (fun _ _ => id)
  obtain ⟨c4, w4, A5, n5, d5, w5, hcv, hap, hn5, hr5, hC5, hd5⟩ := toBytesApp w3 (d := d) (enc_bytes n) hrm (by rw [enc_length, ← HK.out]; omega)
  rw [← HS.out, enc_length, ← HK.out] at hcv
  rw [enc_length, ← HK.out] at hap
  have h17 := take_any w5 A5 d5 (enc n ++ m) hr5 ((enc_bytes n).append HB2.out) (by rw [List.length_append, enc_length, ← HK.out]; omega) (by rw [← hn5]; exact hd5)
  rw [← hn5] at h17
  unfold TkPost at h17
  rw [tk_enc hu, ← HK.out] at h17
  have HC5 := Lib.hid hC5
  clear hn3 hrm hC5 hr5 hn5 hd5 h2
  go_wp2_with (at_builtin; refine wpList_append_run rfl _ _ 22 rfl _ _ _ _ rfl rfl hap ?_)
  refine h17.mono ?_
  rintro e6 w6 ⟨rfl, n6, rfl⟩
  have hC6 := chg_trans (chg_trans HC3.out HC5.out) (chg_drewN w5 n6)
  have hs6 : (convert 22 9 (.slice A2 n2 d2)).run Try.prog (w5.drewN n6) = .ok (.string X) (w5.drewN n6) := by
    rw [HX.out]
    exact str_at hr2 HN2.out hC6
  have hs7 : (convert 22 9 (.slice A l.length c)).run Try.prog (w5.drewN n6) = .ok (.string L) (w5.drewN n6) := by
    rw [HL.out]
    exact str_at HR.out rfl (chg_trans HC2.out hC6)
  have HC6 := Lib.hid hC6
  clear hC6 hs3 hcv hap h17
  go_wp2_with (go_at_call 24; refine (h3 _).mono ?_; rintro e8 w8 ⟨rfl, rfl⟩)
  go_ret
  exact ⟨rfl, chg_to_below (chg_trans HC2.out HC6.out)⟩

theorem tk_cut {n : Int} (hu : U64' n) (k : Nat) (hk : k < csz n) : tk ((enc n).take k) = (0, 0, 5) := by
  have hl := enc_length n
  have h := tk_enc hu []
  rw [List.append_nil] at h
  have hp := (csz_le n).1
  have hcl : clen ((enc n).getD 0 0) = csz n := by
    unfold tk at h
    rw [if_neg (by omega)] at h
    simp only at h
    split at h
    · simp at h
    · split at h
      · simp at h
      · split at h
        · simp only [Prod.mk.injEq] at h; omega
        · simp at h
  by_cases h0 : k = 0
  · subst h0; rfl
  · have hg : ((enc n).take k).getD 0 0 = (enc n).getD 0 0 := by
      rw [List.getD_eq_getElem?_getD, List.getD_eq_getElem?_getD, List.getElem?_take, if_pos (by omega)]
    have hlen : ((enc n).take k).length = k := by rw [List.length_take]; omega
    unfold tk
    rw [if_neg (by omega)]
    simp only [hg, hcl]
    rw [if_neg (by have := (csz_le n).2; omega), if_pos (by omega)]
theorem csz_mono {n m : Int} (h : n ≤ m) : csz n ≤ csz m := by
  unfold csz
  (repeat' split) <;> omega
theorem enc_inj {n m : Int} (hn : U64' n) (hm : U64' m) (h : enc n = enc m) : n = m := by
  have h1 := tk_enc hn []
  have h2 := tk_enc hm []
  rw [h, h2] at h1
  simp only [Prod.mk.injEq] at h1
  exact h1.1.symm
set_option maxHeartbeats 1000000 in
theorem compactCuts_walk (n cut : Int) (w : World) (hn : (Lit.int .u64 n).wf = true) (hc : (Lit.int .u64 cut).wf = true) : Calls Try.prog 6 #[.int .u64 n, .int .u64 cut] w fun e w' => e = .returned (.bool true) ∧ Below w.heap.size w w' := by
  have hu := u64_of_wf hn
  obtain ⟨hc1, hc2⟩ := u64_of_wf hc
  have hcs := csz_le n
  obtain ⟨K, hK⟩ : ∃ K, K = csz n := ⟨_, rfl⟩
  have hlen := enc_length n
  rw [← hK] at hcs hlen
  obtain ⟨k, hk⟩ : ∃ k : Nat, cut % (K : Int) = k := ⟨(cut % (K : Int)).toNat, by have := Int.emod_nonneg cut (show (K : Int) ≠ 0 by omega); omega⟩
  have hkK : k < K := by have := Int.emod_lt_of_pos cut (show (0 : Int) < K by omega); omega
  have HK := Lib.hid hK
  have Hk := Lib.hid hk
  clear hn hc hK hk
  go_enter Try.func6, Try.ntmps6
  go_wp2_with (go_at_call 16; refine (awake_any w).mono ?_; rintro e1 w1 ⟨rfl, hb1⟩)
  refine (append_any w1 none 0 [] n (fun h => absurd rfl h) (by simp) hu).mono ?_
  rintro e2 w2 ⟨v2, rfl, hN2⟩
  rw [List.nil_append] at hN2
  obtain ⟨A2, n2, d2, rfl, hn2, hr2⟩ := New.form3 hN2
  have hcap := (New.cap hN2).2
  rw [hlen] at hn2 hcap
  subst hn2
  have hkk := Hk.out
  have hsl := run_cutH (P := Try.prog) (kj := .u64) Try.underlying22 size5 A2 n2 d2 k (by omega) w2
  have h17 := take_any w2 (cutA A2 0 d2) d2 ((enc n).take k) (by have := cutA_sub (c := d2) hr2 0 k (by omega) (by omega); rwa [List.drop_zero] at this) ((enc_bytes n).take k) (by rw [List.length_take]; omega) (by rw [List.length_take]; omega)
  rw [show ((enc n).take k).length = k by rw [List.length_take]; omega] at h17
  unfold TkPost at h17
  rw [tk_cut hu k (by rw [← HK.out]; exact hkK)] at h17
  have HC2 := Lib.hid hN2.2.1
  clear hN2 hr2 hlen
  go_wp2_with (with_reducible refine wpList_slice_run rfl 22 _ none _ rfl _ _ none _ rfl rfl rfl hsl ?_)
  refine h17.mono ?_
  rintro e3 w3 ⟨rfl, n3, rfl⟩
  go_wp2
  go_ret
  exact ⟨rfl, (hb1.trans ((chg_to_below HC2.out).mono hb1.size)).trans ((Go.Joins.below_draws _ _ _).mono (Nat.le_trans hb1.size HC2.out.size))⟩

set_option maxHeartbeats 1000000 in
theorem compactRises_walk (n more : Int) (w : World) (hn : (Lit.int .u64 n).wf = true) (hc : (Lit.int .u64 more).wf = true) : Calls Try.prog 7 #[.int .u64 n, .int .u64 more] w fun e w' => e = .returned (.bool true) ∧ Below w.heap.size w w' := by
  have hu := u64_of_wf hn
  have hv := u64_of_wf hc
  have hcs := csz_le n
  have hcm := csz_le more
  obtain ⟨K, hK⟩ : ∃ K, K = csz n := ⟨_, rfl⟩
  have hlen := enc_length n
  rw [← hK] at hcs hlen
  by_cases h : more ≤ n
  · obtain ⟨S, hS⟩ : ∃ S, S = strOf (enc n) := ⟨_, rfl⟩
    have HS := Lib.hid hS
    clear hn hc hK hS hcm
    go_enter Try.func7, Try.ntmps7
    go_wp2_with (go_at_call 16; refine (awake_any w).mono ?_; rintro e1 w1 ⟨rfl, hb1⟩)
    refine (append_any w1 none 0 [] n (fun h => absurd rfl h) (by simp) hu).mono ?_
    rintro e2 w2 ⟨v2, rfl, hN2⟩
    rw [List.nil_append] at hN2
    obtain ⟨A2, n2, d2, rfl, hn2, hr2⟩ := New.form3 hN2
    rw [hlen] at hn2
    subst hn2
    have HC2 := Lib.hid hN2.2.1
    go_wp2_with fail
    refine (append_any w2 none 0 [] n (fun h => absurd rfl h) (by simp) hu).mono ?_
    rintro e3 w3 ⟨v3, rfl, hN3⟩
    rw [List.nil_append] at hN3
    obtain ⟨A3, n3, d3, rfl, hn3, hr3⟩ := New.form3 hN3
    rw [hlen] at hn3
    subst hn3
    have HC3 := Lib.hid hN3.2.1
    have hs2 : (convert 22 9 (.slice A2 n3 d2)).run Try.prog w3 = .ok (.string S) w3 := by
      rw [HS.out]
      exact str_at hr2 hlen.symm HC3.out
    have hs3 : (convert 22 9 (.slice A3 n3 d3)).run Try.prog w3 = .ok (.string S) w3 := by
      rw [HS.out]
      exact str_at hr3 hlen.symm (Chg.refl _ _)
    clear hN2 hr2 hN3 hr3 hlen
    go_wp2
    go_ret
    exact ⟨rfl, hb1.trans ((chg_to_below (chg_trans HC2.out HC3.out)).mono hb1.size)⟩
  · obtain ⟨S, hS⟩ : ∃ S, S = strOf (enc n) := ⟨_, rfl⟩
    obtain ⟨T, hT⟩ : ∃ S, S = strOf (enc more) := ⟨_, rfl⟩
    obtain ⟨M, hM⟩ : ∃ K, K = csz more := ⟨_, rfl⟩
    have hKM := csz_mono (show n ≤ more by omega)
    have hlen2 := enc_length more
    rw [← hM] at hlen2 hcm hKM
    rw [← hK] at hKM
    have hST : (S.toList == T.toList) = false := by
      rw [beq_eq_false_iff_ne, hS, hT]
      intro he
      have := enc_inj hu hv ((strOf_inj (enc_bytes n) (enc_bytes more)).1 he)
      omega
    have hnm : n < more := by omega
    have hnm2 : (n == more) = false := by rw [beq_eq_false_iff_ne]; omega
    have HS := Lib.hid hS
    have HT := Lib.hid hT
    clear hn hc hK hS hT hM h
    go_enter Try.func7, Try.ntmps7
    go_wp2_with (go_at_call 16; refine (awake_any w).mono ?_; rintro e1 w1 ⟨rfl, hb1⟩)
    refine (append_any w1 none 0 [] n (fun h => absurd rfl h) (by simp) hu).mono ?_
    rintro e2 w2 ⟨v2, rfl, hN2⟩
    rw [List.nil_append] at hN2
    obtain ⟨A2, n2, d2, rfl, hn2, hr2⟩ := New.form3 hN2
    rw [hlen] at hn2
    subst hn2
    have HC2 := Lib.hid hN2.2.1
    go_wp2_with fail
    refine (append_any w2 none 0 [] more (fun h => absurd rfl h) (by simp) hv).mono ?_
    rintro e3 w3 ⟨v3, rfl, hN3⟩
    rw [List.nil_append] at hN3
    obtain ⟨A3, n3, d3, rfl, hn3, hr3⟩ := New.form3 hN3
    rw [hlen2] at hn3
    subst hn3
    have HC3 := Lib.hid hN3.2.1
    have hs2 : (convert 22 9 (.slice A2 n2 d2)).run Try.prog w3 = .ok (.string S) w3 := by
      rw [HS.out]
      exact str_at hr2 hlen.symm HC3.out
    have hs3 : (convert 22 9 (.slice A3 n3 d3)).run Try.prog w3 = .ok (.string T) w3 := by
      rw [HT.out]
      exact str_at hr3 hlen2.symm (Chg.refl _ _)
    clear hN2 hr2 hN3 hr3 hlen hlen2
    go_wp2
    go_ret
    exact ⟨rfl, hb1.trans ((chg_to_below (chg_trans HC2.out HC3.out)).mono hb1.size)⟩
end Go.Proofs.Ytcdbchdlenkdgaa
