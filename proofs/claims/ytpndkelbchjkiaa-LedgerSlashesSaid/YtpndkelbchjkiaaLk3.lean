/- What is slashed: the law's walk. -/
import Derived.Test.YtpndkelbchjkiaaLk1
import Derived.Test.YtpndkelbchjkiaaLk2
set_option linter.unusedVariables false
set_option linter.unusedSimpArgs false
namespace Go.Proofs.Ytpndkelbchjkiaa
open Go.RowKit Go.Ps
theorem s2_slash {f b n iss : Int} {ch : List (Int × Int)} (hn : U64 n) (hb : 0 ≤ b) (hc : ∀ x ∈ ch, 0 ≤ x.1) :
    (s2 f b ch 0 iss).slash 0 n = (s2 f (b - min n b) ((sl ch (n - min n b)).1.filter (fun x => !decide (x.1 = 0))) (min n (b + sumC ch)) iss, min n (b + sumC ch), 0) := by
  unfold S.slash
  rw [if_neg (by simp [S.bad, s2]), show Int.toNat 0 = 0 from rfl]
  have hg : (s2 f b ch 0 iss).acc.getD 0 a0 = ⟨f, b, 0, ch⟩ := rfl
  rw [hg]
  have h1 := (sl_sum ch (n - min n b) (by omega) hc).1
  have h2 := sumC_nn ch hc
  unfold U64 at hn
  have h3 : n - ((⟨f, b, 0, ch⟩ : Ac).cut n).2 = min n (b + sumC ch) := by
    show n - (sl ch (n - min n b)).2 = _
    rw [h1]
    omega
  rw [h3]
  have h4 : ((s2 f b ch 0 iss).tre + min n (b + sumC ch)) % 18446744073709551616 = min n (b + sumC ch) := by
    show (0 + min n (b + sumC ch)) % 18446744073709551616 = _
    omega
  rw [h4]
  rfl
theorem take_snocI (l : List Int) (k : Nat) (h : k < l.length) : l.take (k + 1) = l.take k ++ [l.getD k 0] := (take_snoc0 l k h).symm
theorem sumI_take (l : List Int) (k : Nat) (h : k < l.length) : sumI (l.take (k + 1)) = sumI (l.take k) + l.getD k 0 := by
  rw [take_snocI l k h, sumI_app]
  simp [sumI]
theorem getD_memI {l : List Int} {k : Nat} (h : k < l.length) : l.getD k 0 ∈ l := by
  rw [List.getD_eq_getElem?_getD, List.getElem?_eq_getElem h]
  exact List.getElem_mem h
theorem sumI_bound (l : List Int) (k : Nat) (hl : l.length ≤ 8) (h : ∀ x ∈ l, 0 ≤ x ∧ x < 65536) : 0 ≤ sumI (l.take k) ∧ sumI (l.take k) ≤ 524280 ∧ sumI (l.take k) ≤ sumI l := by
  have h1 := sumI_nn (l.take k) (fun x hx => (h x (List.mem_of_mem_take hx)).1)
  have h2 := sumI_nn (l.drop k) (fun x hx => (h x (List.mem_of_mem_drop hx)).1)
  have h3 := sumI_le (l.take k) 65535 (fun x hx => by have := (h x (List.mem_of_mem_take hx)).2; omega)
  have h4 : (l.take k).length ≤ 8 := by rw [List.length_take]; omega
  have h5 := sumI_app (l.take k) (l.drop k)
  rw [List.take_append_drop] at h5
  omega
set_option maxRecDepth 20000 in
set_option maxHeartbeats 8000000 in
theorem ledgerSlashes_walk (f B : Int) (A : Option Addr) (c : Nat) (p : List Int) (n : Int) (w : World) (h0 : (Lit.int .u32 f).wf = true) (h1 : (Lit.int .u32 B).wf = true) (hr : ReadsI w .u16 A p) (hw : ∀ x ∈ p, (Lit.int .u16 x).wf = true) (hy : p.length * 2 ≤ 140737488351232) (h3 : (Lit.int .u64 n).wf = true) :
    Calls Try.prog 4 #[.int .u32 f, .int .u32 B, .slice A p.length c, .int .u64 n] w fun e w' => e = .returned (.bool true) ∧ Below w.heap.size w w' := by
  have hf : 0 ≤ f ∧ f < 4294967296 := by simp [Lit.wf, IntKind.min, IntKind.max, IntKind.signed, IntKind.bits] at h0; omega
  have hB : 0 ≤ B ∧ B < 4294967296 := by simp [Lit.wf, IntKind.min, IntKind.max, IntKind.signed, IntKind.bits] at h1; omega
  have hn : U64 n := by unfold U64; simp [Lit.wf, IntKind.min, IntKind.max, IntKind.signed, IntKind.bits] at h3; omega
  have hp : ∀ x ∈ p, 0 ≤ x ∧ x < 65536 := fun x hx => by have := hw x hx; simp [Lit.wf, IntKind.min, IntKind.max, IntKind.signed, IntKind.bits] at this; omega
  clear h0 h1 hw h3
  obtain ⟨m, hm⟩ : ∃ m, m = p.length := ⟨_, rfl⟩
  rw [← hm]
  have hm62 : m ≤ 140737488351232 := by omega
  by_cases h8 : 8 < m
  · clear hf hB hn hp hr hy hm
    go_enter Try.func4, Try.ntmps4
    go_wp2_with fail
    refine (awake_any _).mono ?_
    rintro e w1 ⟨rfl, hC⟩
    have HC := Lib.hid hC
    clear hC
    go_wp2_with fail
    refine (awake_any _).mono ?_
    rintro e w2 ⟨rfl, hC⟩
    have HC2 := Lib.hid hC
    clear hC
    go_wp2
    go_ret
    exact ⟨rfl, (HC.out.trans HC2.out (fun _ _ h => h)).below (fun k hk => ⟨hk, id⟩)⟩
  have hwf : IntKind.u64.wrap f = f := by rw [wrap64u]; omega
  have hwB : IntKind.u64.wrap B = B := by rw [wrap64u]; omega
  have HP := Lib.hid (⟨hf, hB, hn, hp, hr, hm⟩ : _ ∧ _ ∧ _ ∧ _ ∧ _ ∧ _)
  clear hf hB hn hp hr hy hm hm62
  go_enter Try.func4, Try.ntmps4
  go_wp2_with fail
  refine (awake_any _).mono ?_
  rintro e w1 ⟨rfl, hC⟩
  have HC := Lib.hid hC
  clear hC
  go_wp2
  go_loop [9, 35] (fun a i => ∃ k : Nat, k ≤ m ∧ i = .int .i64 k ∧ a = .int .u64 (B + sumI (p.take k))) (fun _ i => m - (intOf i).toNat)
  case atStart => exact ⟨0, by omega, rfl, by simp [sumI]⟩
  case round =>
    obtain ⟨k, hk, rfl, rfl⟩ := hrel
    by_cases hk2 : k < m
    · obtain ⟨hf, hB, hn, hp, hr, hm⟩ := HP.out
      obtain ⟨g2, o, rfl, hx⟩ := (hr.chg HC.out (fun _ _ => id)).plain (by rintro rfl; simp at hm; omega)
      have hcell := hx k (by omega)
      have hxb := hp _ (getD_memI (k := k) (by omega))
      have hsb := sumI_bound p k (by omega) hp
      have hst := sumI_take p k (by omega)
      obtain ⟨x, hxe⟩ : ∃ x, x = p.getD k 0 := ⟨_, rfl⟩
      rw [← hxe] at hcell hxb hst
      obtain ⟨t, ht⟩ : ∃ t, B + sumI (p.take k) = t := ⟨_, rfl⟩
      obtain ⟨t1, ht1⟩ : ∃ t, B + sumI (p.take (k + 1)) = t := ⟨_, rfl⟩
      have hwx : IntKind.u64.wrap x = x := by rw [wrap64u]; omega
      have hwt : IntKind.u64.wrap (t + x) = t1 := by rw [wrap64u]; omega
      have HT := Lib.hid ht1
      rw [ht]
      clear hf hB hn hp hr hm hx hxb hsb hst hxe ht ht1
      go_wp2
      go_round
      case rel => exact ⟨k + 1, by omega, by go_num, by rw [HT.out]⟩
      case measure => simp [intOf]; omega
    · have ej : k = m := by omega
      subst ej
      have htk : p.take k = p := by rw [HP.out.2.2.2.2.2]; exact List.take_length
      rw [htk]
      clear htk
      obtain ⟨al, hal⟩ : ∃ al, B + sumI p = al := ⟨_, rfl⟩
      have hsb := sumI_bound p k (by have := HP.out.2.2.2.2.2; omega) HP.out.2.2.2.1
      rw [show p.take k = p by rw [HP.out.2.2.2.2.2]; exact List.take_length] at hsb
      have hal2 : 0 ≤ al ∧ al < 8589934592 := by have := HP.out.2.1; omega
      have hfa : 0 ≤ f + al ∧ f + al < 17179869184 := by have := HP.out.1; omega
      have hwal : IntKind.u64.wrap (f + al) = f + al := by rw [wrap64u]; omega
      have hwal7 : IntKind.u64.wrap (f + al + 7) = f + al + 7 := by rw [wrap64u]; omega
      have HAL := Lib.hid (⟨hal, hal2, hfa⟩ : _ ∧ _ ∧ _)
      rw [hal]
      clear hal hsb hal2 hfa
      go_wp2_with fail
      have hC1 : Chg (fun _ => False) w (w1.alloc (.cells #[.int .u64 (f + al), .int .u64 7] 24)) := HC.out.alloc _
      have hsu : sumU 0 [f + al, 7] = (f + al + 7, 0) := by
        have := HAL.out.2.2
        simp only [sumU, Int.zero_add]
        rw [if_pos (by omega), if_pos (by omega)]
      refine (new_any [f + al, 7] (w1.alloc (.cells #[.int .u64 (f + al), .int .u64 7] 24)) (some ⟨w1.heap.size, 0, none⟩) 2 (ReadsI.of_block (t := 24) (fr := (0, 0)) (heap_alloc_at _ _)) (by simp) (by
        intro x hx
        have := HAL.out.2.2
        simp at hx
        unfold U64
        omega)).mono ?_
      intro e w2 hN
      obtain ⟨g, V, rfl, hL0, hC2, hM0⟩ := new_ls (by simp) (by rw [hsu]) hN
      rw [hsu] at hL0
      have hC02 := hC1.trans hC2 (fun _ _ h => h)
      obtain ⟨L0, hL0e⟩ : ∃ L, L = nuL [f + al, 7] := ⟨_, rfl⟩
      rw [← hL0e] at hL0 hM0
      have hL0 : LS 64 34 38 S.hd w2 g V L0 (s2 (f + al) 0 [] 0 (f + al + 7)) := hL0
      have hMw : ∀ k, Mine g V L0 k → w.heap.size ≤ k := fun k hk => by have := hM0 k hk; have := hC1.size; omega
      have hbond := bond_any hL0 (s2_U (by have := HAL.out.2.2; unfold U64; omega) ⟨Int.le_refl _, by omega⟩ ⟨Int.le_refl _, by omega⟩) 0 al (by have := HAL.out.2.1; unfold U64; omega)
      rw [s2_bond HP.out.1.1 (by have := HAL.out.2.1; unfold U64; omega)] at hbond
      have HF := Lib.hid (⟨hC02, hMw⟩ : _ ∧ _)
      clear hC1 hsu hN hL0 hC2 hM0 hC02 hMw hL0e
      go_wp2_with fail
      refine hbond.mono ?_
      rintro e w3 ⟨rfl, hS⟩
      obtain ⟨hC02, hMw⟩ := HF.out
      obtain ⟨L1, hL1, hlen1, hC3, hM1⟩ := hS
      have HI : Hid (∃ L, LS 64 34 38 S.hd w3 g V L (s2 f al [] 0 (f + al + 7)) ∧ Chg (fun _ => False) w w3 ∧ ∀ k, Mine g V L k → w.heap.size ≤ k) := Lib.hid ⟨L1, hL1, hC02.trans hC3 (fun k hk e => by have := hMw k e; omega), fun k hk => (hM1 k hk).elim (hMw k) (fun h => Nat.le_trans hC02.size h)⟩
      clear hC02 hMw hL1 hlen1 hC3 hM1 hbond HF HC
      go_wp2
      go_loopw [65] (fun i wr => ∃ j : Nat, j ≤ k ∧ i = .int .i64 j ∧ Hid (∃ L, LS 64 34 38 S.hd wr g V L (s2 f (al - sumI (p.take j)) (chs 0 (p.take j)) 0 (f + al + 7)) ∧ Chg (fun _ => False) w wr ∧ ∀ k, Mine g V L k → w.heap.size ≤ k)) (fun i _ => k - (intOf i).toNat)
      case atStart =>
        refine ⟨0, by omega, rfl, ?_⟩
        rw [List.take_zero, show al - sumI [] = al by simp [sumI]]
        exact HI
      case round =>
        obtain ⟨j, hj, rfl, HJ⟩ := hrel
        by_cases hj2 : j < k
        · obtain ⟨L, hL, hCw, hMw⟩ := HJ.out
          obtain ⟨hf, hB, hn, hp, hr, hm⟩ := HP.out
          obtain ⟨g2, o, rfl, hx⟩ := (hr.chg hCw (fun _ _ => id)).plain (by rintro rfl; simp at hm; omega)
          have hcell := hx j (by omega)
          have hxb := hp _ (getD_memI (k := j) (by omega))
          have hsb := sumI_bound p j (by omega) hp
          have hsb1 := sumI_bound p (j + 1) (by omega) hp
          have hst := sumI_take p j (by omega)
          have htk := take_snocI p j (by omega)
          obtain ⟨x, hxe⟩ : ∃ x, x = p.getD j 0 := ⟨_, rfl⟩
          rw [← hxe] at hcell hxb hst htk
          have hwx : IntKind.u64.wrap x = x := by rw [wrap64u]; omega
          have hal2 := HAL.out
          have hcl := chs_len (p.take j) 0
          have htl : (p.take j).length = j := by rw [List.length_take]; omega
          have hun := unbond_any hL (s2_U (by unfold U64; omega) (by unfold U64; omega) ⟨Int.le_refl _, by omega⟩) 0 x j (by unfold U64; omega) (by show (chs 0 (p.take j)).length ≤ 900; omega) (chs_srt _ _)
          have hsp := s2_unbond (f := f) (b := al - sumI (p.take j)) (x := x) (t := 0) (iss := f + al + 7) (k := j) (ch := chs 0 (p.take j)) (by unfold U64; omega) (by omega) (by omega) (fun y hy => by have := (chs_mem (p.take j) 0 y hy).2.2; omega)
          have hnext : s2 f (al - sumI (p.take j) - x) (if x = 0 then chs 0 (p.take j) else chs 0 (p.take j) ++ [(x, (j : Int))]) 0 (f + al + 7) = s2 f (al - sumI (p.take (j + 1))) (chs 0 (p.take (j + 1))) 0 (f + al + 7) := by
            rw [hst, htk, chs_snoc, htl, Nat.zero_add, show al - (sumI (p.take j) + x) = al - sumI (p.take j) - x by omega]
          rw [hsp, hnext] at hun
          obtain ⟨r, hr2⟩ : ∃ r, r = ((s2 f (al - sumI (p.take j)) (chs 0 (p.take j)) 0 (f + al + 7)).unbond 0 x j).2 := ⟨_, rfl⟩
          rw [← hr2] at hun
          have HN := Lib.hid (⟨hCw, hMw⟩ : _ ∧ _)
          clear hL hCw hMw hf hB hn hp hr hm hx hxb hsb hsb1 hst htk hxe hal2 hcl htl hsp hnext hr2
          go_wp2_with fail
          refine hun.mono ?_
          rintro e w4 ⟨rfl, hS⟩
          obtain ⟨L2, hL2, hlen2, hC4, hM2⟩ := hS
          have HI2 : Hid (∃ L, LS 64 34 38 S.hd w4 g V L (s2 f (al - sumI (p.take (j + 1))) (chs 0 (p.take (j + 1))) 0 (f + al + 7)) ∧ Chg (fun _ => False) w w4 ∧ ∀ k, Mine g V L k → w.heap.size ≤ k) := Lib.hid ⟨L2, hL2, HN.out.1.trans hC4 (fun k hk e => by have := HN.out.2 k e; omega), fun k hk => (hM2 k hk).elim (HN.out.2 k) (fun h => Nat.le_trans HN.out.1.size h)⟩
          clear hL2 hlen2 hC4 hM2 hun hcell
          go_wp2
          go_roundw
          case rel => exact ⟨j + 1, by omega, by go_num, HI2⟩
          case measure => simp [intOf]; omega
        · have ej : j = k := by omega
          subst ej
          obtain ⟨L, hL, hCw, hMw⟩ := HJ.out
          obtain ⟨hf, hB, hn, hp, hr, hm⟩ := HP.out
          obtain ⟨hal, hal2, hfa⟩ := HAL.out
          rw [show p.take j = p by rw [hm]; exact List.take_length, show al - sumI p = B by omega] at hL
          have hcl := chs_len p 0
          have hcm := chs_mem p 0
          have hcs := chs_sum p 0
          obtain ⟨C, hC⟩ : ∃ C, C = chs 0 p := ⟨_, rfl⟩
          rw [← hC] at hL hcl hcm hcs
          have hCn : ∀ x ∈ C, 0 ≤ x.1 := fun x hx => (hp _ (hcm x hx).1).1
          have hsl := slash_any hL (s2_U (by unfold U64; omega) (by unfold U64; omega) ⟨Int.le_refl _, by omega⟩) (by
            intro i hi
            have hi : i < 2 := hi
            match i, hi with
            | 0, _ => exact ⟨by show C.length ≤ 1000; omega, fun x hx => by have := hp _ (hcm x hx).1; unfold U64; omega⟩
            | 1, _ => exact ⟨by show 0 ≤ 1000; omega, fun x hx => by cases hx⟩) 0 n hn
          rw [s2_slash hn hB.1 hCn, hcs, hal] at hsl
          obtain ⟨T, hT⟩ : ∃ T, min n al = T := ⟨_, rfl⟩
          obtain ⟨T2, hT2⟩ : ∃ T, min n B = T := ⟨_, rfl⟩
          obtain ⟨B1, hB1⟩ : ∃ T, B - T2 = T := ⟨_, rfl⟩
          have hsum := sl_sum C (n - min n B) (by unfold U64 at hn; omega) hCn
          have hmem := sl_mem C (n - min n B) (by unfold U64 at hn; omega) hCn
          have hlen := sl_len C (n - min n B)
          have hsf := sumC_filter (sl C (n - min n B)).1
          have hfl := List.length_filter_le (fun x : Int × Int => !decide (x.1 = 0)) (sl C (n - min n B)).1
          rw [hT, hT2, hB1] at hsl
          rw [hT2] at hsum hmem hlen hsf hfl
          have hfm : ∀ x ∈ (sl C (n - T2)).1.filter (fun x => !decide (x.1 = 0)), 0 ≤ x.1 := fun x hx => hmem x (List.mem_filter.1 hx).1
          obtain ⟨D, hD⟩ : ∃ D, D = (sl C (n - T2)).1.filter (fun x => !decide (x.1 = 0)) := ⟨_, rfl⟩
          rw [← hD] at hsl hsf hfl hfm
          have hLf : B1 + sumC D = al - T := by
            have h2 := sumC_nn C hCn
            unfold U64 at hn
            omega
          have hDl : D.length ≤ 8 := by omega
          have hsn := sumC_nn D hfm
          have hT0 : 0 ≤ T ∧ T ≤ al := by unfold U64 at hn; omega
          have hB10 : 0 ≤ B1 ∧ B1 < 4294967296 := by unfold U64 at hn; omega
          have hwlf : IntKind.u64.wrap (al - T) = al - T := by rw [wrap64u]; omega
          have hwb1 : IntKind.u64.wrap (B - T2) = B1 := by rw [wrap64u, hB1]; omega
          have HQ := Lib.hid (⟨hLf, hDl, hsn, hT0, hB10, hfm, hCw, hMw⟩ : _ ∧ _ ∧ _ ∧ _ ∧ _ ∧ _ ∧ _ ∧ _)
          clear hL hCw hMw hf hB hn hp hr hm hal hal2 hfa hcl hcm hcs hC hCn hB1 hsum hmem hlen hsf hfl hfm hD hLf hDl hsn hT0 hB10
          go_wp2_with fail
          refine hsl.mono ?_
          rintro e w5 ⟨rfl, hS⟩
          obtain ⟨hLf, hDl, hsn, hT0, hB10, hfm, hCw, hMw⟩ := HQ.out
          obtain ⟨L5, hL5, hlen5, hC5, hM5⟩ := hS
          have hCw5 : Chg (fun _ => False) w w5 := hCw.trans hC5 (fun k hk e => by have := hMw k e; omega)
          have hac := account_any hL5 0 (by show D.length ≤ 1000; omega)
          unfold AccPost at hac
          rw [show (s2 f B1 D T (f + al + 7)).acc.getD (Int.toNat 0) a0 = ⟨f, B1, 0, D⟩ from rfl] at hac
          simp only [if_neg (show ¬ (s2 f B1 D T (f + al + 7)).bad 0 by simp [S.bad, s2])] at hac
          obtain ⟨dl, hdl⟩ : ∃ n, n = D.length := ⟨_, rfl⟩
          rw [← hdl] at hac
          have HDL := Lib.hid hdl
          have HR := Lib.hid (⟨hCw5, hL5⟩ : _ ∧ _)
          clear hLf hDl hsn hT0 hB10 hfm hCw hMw hlen5 hC5 hM5 hL5 hCw5 hdl hsl
          go_wp2_with fail
          refine hac.mono ?_
          rintro e w6 ⟨A6, c6, rfl, hN6⟩
          obtain ⟨hCw5, hL5⟩ := HR.out
          have hC56 : Chg (fun _ => False) w5 (w6.alloc (.cells #[.int .u64 f, .int .u64 B1, .int .u64 0, .slice A6 dl c6] 34)) := hN6.2.1.alloc _
          have k6 : (w6.alloc (.cells #[.int .u64 f, .int .u64 B1, .int .u64 0, .slice A6 dl c6] 34)).heap[w6.heap.size]? = some (.cells #[.int .u64 f, .int .u64 B1, .int .u64 0, .slice A6 dl c6] 34 (0, 0)) := heap_alloc_at _ _
          have hO6 := hN6.1.chg ((Chg.refl (fun _ => False) w6).alloc (.cells #[.int .u64 f, .int .u64 B1, .int .u64 0, .slice A6 dl c6] 34)) (fun _ _ => id)
          obtain ⟨q6, hq6⟩ : ∃ q, q = w6.heap.size := ⟨_, rfl⟩
          have hac2 := account_any (hL5.keep hC56) 1 (by show 0 ≤ 1000; omega)
          unfold AccPost at hac2
          rw [show (s2 f B1 D T (f + al + 7)).acc.getD (Int.toNat 1) a0 = ⟨7, 0, 0, []⟩ from rfl] at hac2
          simp only [if_neg (show ¬ (s2 f B1 D T (f + al + 7)).bad 1 by simp [S.bad, s2])] at hac2
          obtain ⟨W6, hW6⟩ : ∃ W6, W6 = w6.alloc (.cells #[.int .u64 f, .int .u64 B1, .int .u64 0, .slice A6 dl c6] 34) := ⟨_, rfl⟩
          rw [← hW6] at hC56 k6 hO6 hac2
          rw [← hq6] at k6
          have HW6 := Lib.hid (⟨hW6, hq6⟩ : _ ∧ _)
          have HR6 := Lib.hid (⟨hCw5.trans hC56 (fun _ _ h => h), hL5.keep hC56, hO6, k6⟩ : _ ∧ _ ∧ _ ∧ _)
          clear hCw5 hL5 hC56 k6 hO6 hW6 hq6 hN6 hac HR
          go_wp2_with fail
          rw [← HW6.out.1, ← HW6.out.2]
          refine hac2.mono ?_
          rintro e w7 ⟨A7, c7, rfl, hN7⟩
          obtain ⟨hCw6, hL6, hO6, k6⟩ := HR6.out
          simp only [List.length_nil]
          have hC67 : Chg (fun _ => False) W6 (w7.alloc (.cells #[.int .u64 7, .int .u64 0, .int .u64 0, .slice A7 0 c7] 34)) := hN7.2.1.alloc _
          have k7 : (w7.alloc (.cells #[.int .u64 7, .int .u64 0, .int .u64 0, .slice A7 0 c7] 34)).heap[w7.heap.size]? = some (.cells #[.int .u64 7, .int .u64 0, .int .u64 0, .slice A7 0 c7] 34 (0, 0)) := heap_alloc_at _ _
          obtain ⟨W7, hW7⟩ : ∃ W7, W7 = w7.alloc (.cells #[.int .u64 7, .int .u64 0, .int .u64 0, .slice A7 0 c7] 34) := ⟨_, rfl⟩
          obtain ⟨q7, hq7⟩ : ∃ q, q = w7.heap.size := ⟨_, rfl⟩
          rw [← hW7] at hC67 k7
          rw [← hq7] at k7
          have HW7 := Lib.hid (⟨hW7, hq7⟩ : _ ∧ _)
          obtain ⟨x0, x1, x2, x3⟩ := read4 (chg_heap0 hC67 k6)
          obtain ⟨z0, z1, z2, z3⟩ := read4 k7
          have HR7 := Lib.hid (⟨hCw6.trans hC67 (fun _ _ h => h), hL6.keep hC67, hO6.chg hC67 (fun _ _ => id)⟩ : _ ∧ _ ∧ _)
          clear hCw6 hL6 hO6 k6 hC67 k7 hW7 hq7 hN7 hac2 HR6
          go_upto_region 20 with (fail)
          rw [← HW7.out.1, ← HW7.out.2]
          go_wp2
          have hdl8 : dl ≤ 8 := by rw [HDL.out]; exact HQ.out.2.1
          go_loop [20, 98] (fun a i => ∃ t : Nat, t ≤ dl ∧ i = .int .i64 t ∧ a = .int .u64 (B1 + sumC (D.take t))) (fun _ i => dl - (intOf i).toNat)
          case atStart => exact ⟨0, by omega, rfl, by simp [sumC]⟩
          case round =>
            obtain ⟨t, ht, rfl, rfl⟩ := hrel
            by_cases ht2 : t < dl
            · obtain ⟨hCw7, hL7, hO7⟩ := HR7.out
              obtain ⟨hLf, hDl, hsn, hT0, hB10, hfm, _⟩ := HQ.out
              have hdl := HDL.out
              have hal2 := HAL.out
              obtain ⟨bx, cx, e6, _, _, v0, _⟩ := ownF_cells hO7 (k := t) (by omega)
              simp only [Value.slice.injEq] at e6
              obtain ⟨rfl, -, rfl⟩ := e6
              have hs1 := sumC_take_le D (t + 1) hfm
              have hs0 := sumC_take_le D t hfm
              have hst : sumC (D.take (t + 1)) = sumC (D.take t) + (D.getD t d0).1 := by
                rw [take_snocC D t (by omega), sumC_app]
                simp [sumC]
              obtain ⟨x, hxe⟩ : ∃ x, x = (D.getD t d0).1 := ⟨_, rfl⟩
              rw [← hxe] at v0 hst
              obtain ⟨l0, hl0⟩ : ∃ t', B1 + sumC (D.take t) = t' := ⟨_, rfl⟩
              obtain ⟨l1, hl1⟩ : ∃ t', B1 + sumC (D.take (t + 1)) = t' := ⟨_, rfl⟩
              have hwt : IntKind.u64.wrap (l0 + x) = l1 := by rw [wrap64u]; omega
              have HT := Lib.hid hl1
              rw [hl0]
              clear hCw7 hL7 hO7 hLf hDl hsn hT0 hB10 hfm hdl hal2 hs1 hs0 hst hxe hl0 hl1
              go_wp2
              go_round
              case rel => exact ⟨t + 1, by omega, by go_num, by rw [HT.out]⟩
              case measure => simp [intOf]; omega
            · have et : t = dl := by omega
              subst et
              rw [show D.take t = D by rw [HDL.out]; exact List.take_length, HQ.out.1]
              have htr := treasury_any HR7.out.2.1.at_.lat
              have his := iss_any HR7.out.2.1
              rw [show (s2 f B1 D T (f + al + 7)).tre = T from rfl] at htr
              rw [show (s2 f B1 D T (f + al + 7)).iss = f + al + 7 from rfl] at his
              have HB := Lib.hid (HR7.out.1.below (B := w.heap.size) (fun k hk => ⟨hk, id⟩))
              clear HR7 HQ HAL HP HJ HI HDL HW6 HW7
              go_wp2_with fail
              refine htr.mono ?_
              rintro e w8 ⟨rfl, rfl⟩
              go_wp2_with fail
              refine his.mono ?_
              rintro e w9 ⟨rfl, rfl⟩
              clear htr his
              go_wp2
              go_ret
              exact ⟨rfl, HB.out⟩
end Go.Proofs.Ytpndkelbchjkiaa
