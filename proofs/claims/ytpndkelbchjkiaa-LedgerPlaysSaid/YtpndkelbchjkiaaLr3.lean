/- The document's ledger: Issuance, Mint. -/
import Derived.Test.YtpndkelbchjkiaaLr2
set_option linter.unusedVariables false
set_option linter.unusedSimpArgs false
namespace Go.Proofs.Ytpndkelbchjkiaa
open Go.RowKit Go.Ps
set_option maxRecDepth 20000 in
set_option maxHeartbeats 4000000 in
theorem riss_any {w : World} {g : Nat} {V : Value} {L : List Row} {s : S} (h : LS 79 82 94 S.hd2 w g V L s) (hI : s.Inv) (hl : s.acc.length ≤ 1000) :
    Calls Try.prog 53 #[.pointer (some ⟨g, 0, none⟩)] w fun e w' => e = .returned (.int .u64 s.iss) ∧ Chg (fun _ => False) w w' := by
  obtain ⟨A0, c0, e0, _⟩ := h.at_.rows.form
  obtain ⟨n, hn⟩ : ∃ n, n = L.length := ⟨_, rfl⟩
  have hnl : n = s.acc.length := by rw [hn]; exact h.len
  have hhd : ∀ w1, Chg (fun _ => False) w w1 → w1.cell? ⟨g, 0, none⟩ = some (.slice A0 n c0) ∧ w1.cell? ⟨g, 1, none⟩ = some (.int .u64 s.tre) ∧ w1.cell? ⟨g, 2, none⟩ = some (.int .u64 s.pot) := fun w1 hC => by
    have := read3 (chg_heap0 hC h.at_.cell)
    rw [e0, ← hn] at this
    exact this
  obtain ⟨tp, htp⟩ : ∃ tp, s.tre + s.pot = tp := ⟨_, rfl⟩
  have hiss : s.iss = tp + sumA s.acc := by rw [← hI.w, ← htp]; rfl
  have htp0 : 0 ≤ tp := by have := hI.t; have := hI.p; omega
  have hsn := sumA_nn hI.a
  have hi64 := hI.i
  have hwtp : IntKind.u64.wrap (s.tre + s.pot) = tp := by rw [wrap64u]; omega
  have hn1 : n ≤ 1000 := by omega
  have HH := Lib.hid (⟨h, hI, hnl, hiss, htp0, hn, hhd, e0⟩ : _ ∧ _ ∧ _ ∧ _ ∧ _ ∧ _ ∧ _ ∧ _)
  obtain ⟨I, hIe⟩ : ∃ I, I = s.iss := ⟨_, rfl⟩
  rw [← hIe]
  have HI := Lib.hid hIe
  obtain ⟨x0, x1, x2⟩ := hhd w (Chg.refl _ _)
  obtain ⟨t0, ht0⟩ : ∃ t, t = s.tre := ⟨_, rfl⟩
  obtain ⟨p0, hp0⟩ : ∃ t, t = s.pot := ⟨_, rfl⟩
  rw [← ht0] at x1 hwtp
  rw [← hp0] at x2 hwtp
  have HW0 := Lib.hid x0
  clear h hI hl hn hnl htp hiss htp0 hsn hi64 hIe ht0 hp0 hhd e0
  go_enter Try.func53, Try.ntmps53
  go_wp2
  go_quiet (fail)
  go_wp2
  go_loopw [3, 20] (fun a i wr => ∃ k : Nat, k ≤ n ∧ i = .int .i64 k ∧ a = .int .u64 (tp + sumA (s.acc.take k)) ∧ Hid (Chg (fun _ => False) w wr)) (fun _ i _ => n - (intOf i).toNat)
  case atStart => exact ⟨0, by omega, rfl, by simp [sumA], Lib.hid ((Chg.refl _ _).drewN _)⟩
  case round =>
    obtain ⟨k, hk, rfl, rfl, HC⟩ := hrel
    by_cases hk2 : k < n
    · obtain ⟨h, hI, hnl, hiss, htp0, hn, hhd, e0⟩ := HH.out
      have hkl : k < s.acc.length := by omega
      obtain ⟨b, cb, A4, c4, e1, e2, e3, hcells⟩ := h.cells (i := k) (by omega)
      rw [e0] at e1
      simp only [Value.slice.injEq, true_and] at e1
      obtain ⟨rfl, rfl⟩ := e1
      have hrow := h.at_.chs k (by omega)
      have hxx : (L.getD k r0).1 = s.acc.getD k a0 := by rw [← fst_getD, h.acc]
      rw [hxx, e2] at hrow
      have hok := hI.toNn.acc hkl
      have hst := sumA_take s.acc k hkl
      have hb1 := sumA_take_le k hI.a
      have hb2 := sumA_take_le (k + 1) hI.a
      obtain ⟨a, ha⟩ : ∃ a, a = s.acc.getD k a0 := ⟨_, rfl⟩
      rw [← ha] at hcells hok hst hrow
      have hf := hok.f
      have hb := hok.b
      have hd := hok.d
      have hi64 := hI.i
      have hnn := hok.nn
      obtain ⟨t, ht⟩ : ∃ t, tp + sumA (s.acc.take k) = t := ⟨_, rfl⟩
      have hsum : a.sum = a.free + a.bonded + a.dep + sumC a.ch := rfl
      obtain ⟨t1, ht1⟩ : ∃ t', t + a.free = t' := ⟨_, rfl⟩
      obtain ⟨t2, ht2⟩ : ∃ t', t1 + a.bonded = t' := ⟨_, rfl⟩
      obtain ⟨t3, ht3⟩ : ∃ t', t2 + a.dep = t' := ⟨_, rfl⟩
      have w1 : IntKind.u64.wrap (t + a.free) = t1 := by rw [wrap64u]; omega
      have w2 : IntKind.u64.wrap (t1 + a.bonded) = t2 := by rw [wrap64u]; omega
      have w3 : IntKind.u64.wrap (t2 + a.dep) = t3 := by rw [wrap64u]; omega
      have hend : t3 + sumC a.ch = tp + sumA (s.acc.take (k + 1)) := by omega
      have hend2 : t3 + sumC a.ch < 18446744073709551616 ∧ 0 ≤ t3 := by omega
      obtain ⟨fr, hfr⟩ : ∃ x, x = a.free := ⟨_, rfl⟩
      obtain ⟨bo, hbo⟩ : ∃ x, x = a.bonded := ⟨_, rfl⟩
      obtain ⟨de, hde⟩ : ∃ x, x = a.dep := ⟨_, rfl⟩
      obtain ⟨cn, hcn⟩ : ∃ x, x = a.ch.length := ⟨_, rfl⟩
      rw [← hfr, ← hbo, ← hde, ← hcn, ← hn] at hcells
      rw [← hcn] at hrow
      rw [← hfr] at w1
      rw [← hbo] at w2
      rw [← hde] at w3
      have hc8 : cn ≤ 8 := by rw [hcn]; exact hok.n
      have HK := Lib.hid (⟨hend, hend2, hcn, hok.ch0, hcells, hrow⟩ : _ ∧ _ ∧ _ ∧ _ ∧ _ ∧ _)
      rw [ht]
      obtain ⟨y0, y1, y2, y3, y4⟩ := hcells _ HC.out
      clear h hI hnl hiss htp0 hkl hok hst hb1 hb2 ha hf hb hd hi64 ht hsum ht1 ht2 ht3 hend hend2 hfr hbo hde hcn hcells hrow hxx e0 e2 e3 hn hhd hnn
      go_wp2
      go_quiet (fail)
      go_wp2
      go_loop [3, 60] (fun v i => ∃ t : Nat, t ≤ cn ∧ i = .int .i64 t ∧ v = .int .u64 (t3 + sumC (a.ch.take t))) (fun _ i => cn - (intOf i).toNat)
      case atStart => exact ⟨0, by omega, rfl, by simp [sumC]⟩
      case round =>
        obtain ⟨t, ht, rfl, rfl⟩ := hrel
        by_cases ht2 : t < cn
        · obtain ⟨hend, hend2, hcn, hch, hcells, hrow⟩ := HK.out
          obtain ⟨bx, cx, e6, _, _, v0, _⟩ := ownC_cells (hrow.chg HC.out (fun _ _ => id)) (k := t) (by omega)
          simp only [Value.slice.injEq] at e6
          obtain ⟨rfl, -, rfl⟩ := e6
          have hs1 := sumC_take_le a.ch (t + 1) hch
          have hs0 := sumC_take_le a.ch t hch
          have hst : sumC (a.ch.take (t + 1)) = sumC (a.ch.take t) + (a.ch.getD t d0).1 := by
            rw [take_snocC a.ch t (by omega), sumC_app]
            simp [sumC]
          obtain ⟨x, hxe⟩ : ∃ x, x = (a.ch.getD t d0).1 := ⟨_, rfl⟩
          rw [← hxe] at v0 hst
          obtain ⟨l0, hl0⟩ : ∃ t', t3 + sumC (a.ch.take t) = t' := ⟨_, rfl⟩
          obtain ⟨l1, hl1⟩ : ∃ t', t3 + sumC (a.ch.take (t + 1)) = t' := ⟨_, rfl⟩
          have hwt : IntKind.u64.wrap (l0 + x) = l1 := by rw [wrap64u]; omega
          have HT := Lib.hid hl1
          rw [hl0]
          clear hend hend2 hcn hch hs1 hs0 hst hxe hl0 hl1 hcells hrow
          go_wp2
          go_round
          case rel => exact ⟨t + 1, by omega, by go_num, by rw [HT.out]⟩
          case measure => simp [intOf]; omega
        · have et : t = cn := by omega
          subst et
          rw [show a.ch.take t = a.ch by rw [HK.out.2.2.1]; exact List.take_length, HK.out.1]
          go_wp2
          go_roundw
          case rel => exact ⟨k + 1, by omega, by go_num, rfl, Lib.hid (HC.out.drewN _)⟩
          case measure => simp [intOf]; omega
    · have ek : k = n := by omega
      subst ek
      rw [show s.acc.take k = s.acc by rw [HH.out.2.2.1]; exact List.take_length, ← HH.out.2.2.2.1, ← HI.out]
      go_wp2
      go_ret
      exact ⟨rfl, HC.out⟩
set_option maxHeartbeats 1000000 in
theorem rmint_any {w : World} {g : Nat} {V : Value} {L : List Row} {s : S} (h : LS 79 82 94 S.hd2 w g V L s) (hI : s.Inv) (hl : s.acc.length ≤ 1000) (n : Int) (hn : U64 n) :
    Calls Try.prog 49 #[.pointer (some ⟨g, 0, none⟩), .int .u64 n] w fun e w' => e = .returned (.int .i64 (s.mint n).2) ∧ Stp 79 82 94 S.hd2 w w' g V L (s.mint n).1 := by
  have hi := riss_any h hI hl
  have ha := fun W => radd_any s.iss n W hI.iss hn
  unfold S.mint
  by_cases h0 : s.iss + n < 18446744073709551616
  · simp only [if_pos h0] at ha ⊢
    obtain ⟨m, hm⟩ : ∃ m, IntKind.u64.wrap (s.pot + n) = m := ⟨_, rfl⟩
    rw [show (s.pot + n) % 18446744073709551616 = m by rw [← hm, wrap64u]]
    obtain ⟨d, hd⟩ : ∃ d, d = s.iss + n := ⟨_, rfl⟩
    rw [← hd] at ha ⊢
    have HL := Lib.hid h
    have hx : ∀ w1, Chg (fun _ => False) w w1 → w1.cell? ⟨g, 2, none⟩ = some (.int .u64 s.pot) ∧ w1.frozen? ⟨g, 2, none⟩ = false := fun w1 hC => ⟨cell_of (chg_heap0 hC h.at_.cell) 2 rfl, frozen_of (chg_heap0 hC h.at_.cell) 2⟩
    obtain ⟨po, hpo⟩ : ∃ po, po = s.pot := ⟨_, rfl⟩
    rw [← hpo] at hx hm
    have HPO := Lib.hid hpo
    clear h hI hl hn h0 hd hpo
    go_enter Try.func49, Try.ntmps49
    go_wp2_with fail
    refine hi.mono ?_
    rintro e w1 ⟨rfl, hC⟩
    obtain ⟨x2, f2⟩ := hx w1 hC
    have HS : Hid (Stp 79 82 94 S.hd2 w (w1.setCell ⟨g, 2, none⟩ (.int .u64 m)) g V L ⟨s.acc, s.tre, m, d⟩) := Lib.hid (by
      have h1 := (HL.out.keep hC).at_.setHd 1 (.int .u64 m)
      exact Stp.after hC ⟨L, ⟨h1, HL.out.acc⟩, rfl, Chg.setCell (F := Mine g V L) (p := ⟨g, 2, none⟩) (Chg.refl _ w1) (fun _ => .inl rfl) _, fun k hk => .inl hk⟩)
    clear hC hi hx
    go_wp2_with fail
    refine (ha _).mono ?_
    rintro e w2 ⟨rfl, rfl⟩
    go_wp2
    go_ret
    exact ⟨rfl, HS.out⟩
  · simp only [if_neg h0] at ha ⊢
    have HL := Lib.hid h
    clear h hI hl hn h0
    go_enter Try.func49, Try.ntmps49
    go_wp2_with fail
    refine hi.mono ?_
    rintro e w1 ⟨rfl, hC⟩
    have HC := Lib.hid hC
    clear hC hi
    go_wp2_with fail
    refine (ha _).mono ?_
    rintro e w2 ⟨rfl, rfl⟩
    go_wp2
    go_ret
    exact ⟨rfl, Stp.refl HL.out HC.out⟩
end Go.Proofs.Ytpndkelbchjkiaa
