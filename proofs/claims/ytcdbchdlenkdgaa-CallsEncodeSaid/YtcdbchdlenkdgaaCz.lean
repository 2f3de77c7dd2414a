/- The law CallsEncode: its walk. -/
import Derived.Test.YtcdbchdlenkdgaaCs
import Derived.Test.YtcdbchdlenkdgaaCf
import Derived.Test.YtcdbchdlenkdgaaCr
set_option linter.unusedVariables false
set_option linter.unusedSimpArgs false
namespace Go.Proofs.Ytcdbchdlenkdgaa
open Go.RowKit Go.Ps

set_option maxRecDepth 20000 in
set_option maxHeartbeats 4000000 in
theorem callsEncode_walk (z : C7m) (w : World) (hz : z.x.ok ∧ ReadsI w .u64 z.A z.x.list ∧ ReadsI w .u8 z.B z.x.bytes ∧ z.x.list.length ≤ z.c ∧ z.x.bytes.length ≤ z.d) :
    Calls Try.prog 12 #[z.v] w fun e w' => e = .returned (.bool true) ∧ Below w.heap.size w w' := by
  have hth := fun W => theirs_any z W
  obtain ⟨⟨kind, who, a, b, e, list, bytes⟩, A, c, B, d⟩ := z
  unfold C7m.v at *
  obtain ⟨hok, hA, hB, hcA, hcB⟩ := hz
  have henc := fun W (h : Chg (fun _ => False) w W) => encode_any ⟨kind, who, a, b, e, list, bytes⟩ A c B d W hok (hA.chg h (fun _ _ => id)) (hB.chg h (fun _ _ => id))
  have hrenc := fun W (h : Chg (fun _ => False) w W) => rencode_any ⟨kind, who, a, b, e, list, bytes⟩ A c B d W hok (hA.chg h (fun _ _ => id)) (hB.chg h (fun _ _ => id))
  have hfo := fun W => formed_any ⟨kind, who, a, b, e, list, bytes⟩ A c B d W
  have hrfo := fun W => rformed_any ⟨kind, who, a, b, e, list, bytes⟩ A c B d W
  have hsame := fun A2 B2 c2 d2 W (h : Chg (fun _ => False) w W) hA2 hB2 hl => samecall_any ⟨kind, who, a, b, e, list, bytes⟩ A2 B2 A B c2 d2 c d W hA2 hB2 (hA.chg h (fun _ _ => id)) (hB.chg h (fun _ _ => id)) hl
  have hfl := fun h => encC_len (x := ⟨kind, who, a, b, e, list, bytes⟩) h
  have hdi := fun hf => (decC_iff (encC_bytes hok) ⟨kind, who, a, b, e, list, bytes⟩).2 ⟨hok, hf, rfl⟩
  unfold EncPost at henc hrenc
  unfold BoolPost at hfo hrfo hsame
  obtain ⟨l, hl⟩ : ∃ l, l = encC ⟨kind, who, a, b, e, list, bytes⟩ := ⟨_, rfl⟩
  obtain ⟨F, hF⟩ : ∃ F, F = formedC ⟨kind, who, a, b, e, list, bytes⟩ := ⟨_, rfl⟩
  have hbl := encC_bytes hok
  rw [← hl] at henc hrenc hfl hdi hbl
  rw [← hF] at henc hrenc hfl hdi hfo hrfo
  unfold cv at *
  simp only at *
  clear hl hF hok hA hB hcA hcB
  by_cases hl1 : 21000 < bytes.length
  · clear hfl hdi henc hrenc hfo hrfo hsame hth hbl
    go_enter Try.func12, Try.ntmps12
    go_wp2_with fail
    refine (awake22_any _).mono ?_
    rintro e1 w1 ⟨rfl, hC1⟩
    have hb := chg_heap hC1 (heap_alloc_at w (.cells #[.int .i64 kind, .int .i64 who, .int .u64 a, .int .u64 b, .int .u64 e, .slice A list.length c, .slice B bytes.length d] 58))
    obtain ⟨g, hg⟩ : ∃ g, g = w.heap.size := ⟨_, rfl⟩
    have hCw := chg_trans ((Chg.refl _ w).alloc _) hC1
    rw [← hg] at hb ⊢
    obtain ⟨c0, c1, c2, c3, c4, c5, c6⟩ := read7 hb
    have HC1 := Lib.hid hCw
    have HB1 := Lib.hid hb
    clear hb hC1 hCw hg
    go_wp2_with fail
    refine (awake22_any _).mono ?_
    rintro e2 w2 ⟨rfl, hC2⟩
    have HC2 := Lib.hid hC2
    clear hC2
    go_wp2
    go_ret
    exact ⟨rfl, chg_to_below (chg_trans HC1.out HC2.out)⟩
  · by_cases hl2 : 100 < list.length
    · clear hfl hdi henc hrenc hfo hrfo hsame hth hbl
      go_enter Try.func12, Try.ntmps12
      go_wp2_with fail
      refine (awake22_any _).mono ?_
      rintro e1 w1 ⟨rfl, hC1⟩
      have hb := chg_heap hC1 (heap_alloc_at w (.cells #[.int .i64 kind, .int .i64 who, .int .u64 a, .int .u64 b, .int .u64 e, .slice A list.length c, .slice B bytes.length d] 58))
      obtain ⟨g, hg⟩ : ∃ g, g = w.heap.size := ⟨_, rfl⟩
      have hCw := chg_trans ((Chg.refl _ w).alloc _) hC1
      rw [← hg] at hb ⊢
      obtain ⟨c0, c1, c2, c3, c4, c5, c6⟩ := read7 hb
      have HC1 := Lib.hid hCw
      have HB1 := Lib.hid hb
      clear hb hC1 hCw hg
      go_wp2_with fail
      refine (awake22_any _).mono ?_
      rintro e2 w2 ⟨rfl, hC2⟩
      have HC2 := Lib.hid hC2
      clear hC2
      go_wp2
      go_ret
      exact ⟨rfl, chg_to_below (chg_trans HC1.out HC2.out)⟩
    · cases F with
      | false =>
        clear hfl hdi hbl hsame
        simp only [Bool.false_eq_true, if_false] at henc hrenc
        have HE := Lib.hid henc
        have HER := Lib.hid hrenc
        clear henc hrenc
        go_enter Try.func12, Try.ntmps12
        go_wp2_with fail
        refine (awake22_any _).mono ?_
        rintro e1 w1 ⟨rfl, hC1⟩
        have hb := chg_heap hC1 (heap_alloc_at w (.cells #[.int .i64 kind, .int .i64 who, .int .u64 a, .int .u64 b, .int .u64 e, .slice A list.length c, .slice B bytes.length d] 58))
        obtain ⟨g, hg⟩ : ∃ g, g = w.heap.size := ⟨_, rfl⟩
        have hCw := chg_trans ((Chg.refl _ w).alloc _) hC1
        rw [← hg] at hb ⊢
        obtain ⟨c0, c1, c2, c3, c4, c5, c6⟩ := read7 hb
        have HC1 := Lib.hid hCw
        have HB1 := Lib.hid hb
        clear hb hC1 hCw hg
        go_wp2_with fail
        refine (hth _).mono ?_
        rintro e2 w2 ⟨rfl, hC2⟩
        have hb := chg_heap hC2 HB1.out
        have hCC := chg_trans HC1.out hC2
        have henc := HE.out w2 hCC
        have HC2 := Lib.hid hCC
        have HB2 := Lib.hid hb
        have HENC := Lib.hid henc
        clear hC2 hCC henc hb
        go_wp2_with fail
        refine HENC.out.mono ?_
        rintro e4 w4 ⟨v4, rfl, hN4⟩
        obtain ⟨A4, n4, d4, rfl, hn4, hr4⟩ := New.form3 hN4
        have hcap4 := (New.cap hN4).2
        have hb := chg_heap hN4.2.1 HB2.out
        obtain ⟨c0, c1, c2, c3, c4, c5, c6⟩ := read7 hb
        have hC4 := chg_trans HC2.out hN4.2.1
        have hrenc := HER.out w4 hC4
        have HC4 := Lib.hid hC4
        have HB4 := Lib.hid hb
        have HRENC := Lib.hid hrenc
        have HR4 := Lib.hid hr4
        have HL4 := Lib.hid hn4
        have HCAP4 := Lib.hid hcap4
        clear hC4 hrenc hb hr4 hn4 hcap4 hN4 HENC
        simp only []
        go_wp2_with fail
        refine HRENC.out.mono ?_
        rintro e5 w5 ⟨v5, rfl, hN5⟩
        obtain ⟨A5, n5, d5, rfl, hn5, hr5⟩ := New.form3 hN5
        have hb := chg_heap hN5.2.1 HB4.out
        have HB5 := Lib.hid hb
        have hS4 : ∀ W, Chg (fun _ => False) w5 W → (convert 22 9 (.slice A4 n4 d4)).run Try.prog W = .ok (.string (strOf [])) W := fun W hW => str_at HR4.out HL4.out (chg_trans hN5.2.1 hW)
        have hS5 : ∀ W, Chg (fun _ => False) w5 W → (convert 22 9 (.slice A5 n5 d5)).run Try.prog W = .ok (.string (strOf [])) W := fun W hW => str_at hr5 hn5 hW
        obtain ⟨S, hS⟩ : ∃ S, S = strOf [] := ⟨_, rfl⟩
        rw [← hS] at hS4 hS5
        have HC5 := Lib.hid (chg_trans HC4.out hN5.2.1)
        have HC45 := Lib.hid hN5.2.1
        have HS4 := Lib.hid hS4
        have HS5 := Lib.hid hS5
        clear hS hS4 hS5 hN5 hn5 hr5 hb HRENC
        simp only []
        go_wp2_with fail
        refine wp_region_same (fun W => Chg (fun _ => False) w5 W) (by kernel_rfl) (by kernel_rfl) ((Chg.refl _ _).drew) ?_
        repeat (first | (refine wpDet_skip (by rfl) ?_; simp only [Act.put, List.setIfInBounds_toArray, List.set_cons_zero, List.set_cons_succ]) | (apply wpDet_step (by rfl); (focus (intro W hW; obtain ⟨x0, x1, x2, x3, x4, x5, x6⟩ := read7 (chg_heap hW HB5.out); have hs4 := HS4.out W hW; have hs5 := HS5.out W hW; go_simp; (first | (with_reducible exact HasV.val hW) | ((with_reducible refine HasV.call (hth W) ?_); exact fun w' h => chg_trans hW h) | ((with_reducible refine HasV.call (hfo W) ?_); exact fun w' h => chg_trans hW h) | ((with_reducible refine HasV.call (hrfo W) ?_); exact fun w' h => chg_trans hW h)))); simp only [Act.put, List.setIfInBounds_toArray, List.set_cons_zero, List.set_cons_succ]))
        refine wpDet_nil ?_
        intro W hW
        have hdec := decode_of W A4 d4 [] (HR4.out.chg (chg_trans HC45.out hW) (fun _ _ => id)) (by simp [Bytes]) (by simp) (by simp)
        have h4 := HL4.out
        rw [← HL4.out] at hdec
        obtain ⟨r, hr⟩ : ∃ r, r = decC [] := ⟨_, rfl⟩
        rw [← hr] at hdec
        unfold DecPost cv at hdec
        have HD := Lib.hid hdec
        have HCW := Lib.hid hW
        clear hdec hr h4 hW
        go_wp2_with fail
        refine HD.out.mono ?_
        rintro e6 w6 ⟨A6, c6, B6, d6, rfl, hA6, hB6, hc6, hd6, hC6⟩
        have HC6 := Lib.hid hC6
        clear hA6 hB6 hc6 hd6 hC6
        simp only []
        go_wp2
        go_ret
        exact ⟨by simp, chg_to_below (chg_trans HC5.out (chg_trans HCW.out (HC6.out.alloc _)))⟩
      | true =>
        simp only [if_true, forall_const] at henc hrenc hfl hdi
        obtain ⟨hn2, hn3⟩ := hfl
        have HE := Lib.hid henc
        have HER := Lib.hid hrenc
        have HDI := Lib.hid hdi
        have HBL := Lib.hid hbl
        have HSM := Lib.hid hsame
        clear henc hrenc hdi hbl hsame
        go_enter Try.func12, Try.ntmps12
        go_wp2_with fail
        refine (awake22_any _).mono ?_
        rintro e1 w1 ⟨rfl, hC1⟩
        have hb := chg_heap hC1 (heap_alloc_at w (.cells #[.int .i64 kind, .int .i64 who, .int .u64 a, .int .u64 b, .int .u64 e, .slice A list.length c, .slice B bytes.length d] 58))
        obtain ⟨g, hg⟩ : ∃ g, g = w.heap.size := ⟨_, rfl⟩
        have hCw := chg_trans ((Chg.refl _ w).alloc _) hC1
        rw [← hg] at hb ⊢
        obtain ⟨c0, c1, c2, c3, c4, c5, c6⟩ := read7 hb
        have HC1 := Lib.hid hCw
        have HB1 := Lib.hid hb
        clear hb hC1 hCw hg
        go_wp2_with fail
        refine (hth _).mono ?_
        rintro e2 w2 ⟨rfl, hC2⟩
        have hb := chg_heap hC2 HB1.out
        have hCC := chg_trans HC1.out hC2
        have henc := HE.out w2 hCC
        have HC2 := Lib.hid hCC
        have HB2 := Lib.hid hb
        have HENC := Lib.hid henc
        clear hC2 hCC henc hb
        go_wp2_with fail
        refine HENC.out.mono ?_
        rintro e4 w4 ⟨v4, rfl, hN4⟩
        obtain ⟨A4, n4, d4, rfl, hn4, hr4⟩ := New.form3 hN4
        have hcap4 := (New.cap hN4).2
        have hb := chg_heap hN4.2.1 HB2.out
        obtain ⟨c0, c1, c2, c3, c4, c5, c6⟩ := read7 hb
        have hC4 := chg_trans HC2.out hN4.2.1
        have hrenc := HER.out w4 hC4
        have HC4 := Lib.hid hC4
        have HB4 := Lib.hid hb
        have HRENC := Lib.hid hrenc
        have HR4 := Lib.hid hr4
        have HL4 := Lib.hid hn4
        have HCAP4 := Lib.hid hcap4
        clear hC4 hrenc hb hr4 hn4 hcap4 hN4 HENC
        simp only []
        go_wp2_with fail
        refine HRENC.out.mono ?_
        rintro e5 w5 ⟨v5, rfl, hN5⟩
        obtain ⟨A5, n5, d5, rfl, hn5, hr5⟩ := New.form3 hN5
        have hb := chg_heap hN5.2.1 HB4.out
        have HB5 := Lib.hid hb
        have hS4 : ∀ W, Chg (fun _ => False) w5 W → (convert 22 9 (.slice A4 n4 d4)).run Try.prog W = .ok (.string (strOf l)) W := fun W hW => str_at HR4.out HL4.out (chg_trans hN5.2.1 hW)
        have hS5 : ∀ W, Chg (fun _ => False) w5 W → (convert 22 9 (.slice A5 n5 d5)).run Try.prog W = .ok (.string (strOf l)) W := fun W hW => str_at hr5 hn5 hW
        obtain ⟨S, hS⟩ : ∃ S, S = strOf l := ⟨_, rfl⟩
        rw [← hS] at hS4 hS5
        have HC5 := Lib.hid (chg_trans HC4.out hN5.2.1)
        have HC45 := Lib.hid hN5.2.1
        have HS4 := Lib.hid hS4
        have HS5 := Lib.hid hS5
        clear hS hS4 hS5 hN5 hn5 hr5 hb HRENC
        simp only []
        go_wp2_with fail
        refine wp_region_same (fun W => Chg (fun _ => False) w5 W) (by kernel_rfl) (by kernel_rfl) ((Chg.refl _ _).drew) ?_
        repeat (first | (refine wpDet_skip (by rfl) ?_; simp only [Act.put, List.setIfInBounds_toArray, List.set_cons_zero, List.set_cons_succ]) | (apply wpDet_step (by rfl); (focus (intro W hW; obtain ⟨x0, x1, x2, x3, x4, x5, x6⟩ := read7 (chg_heap hW HB5.out); have hs4 := HS4.out W hW; have hs5 := HS5.out W hW; go_simp; (first | (with_reducible exact HasV.val hW) | ((with_reducible refine HasV.call (hth W) ?_); exact fun w' h => chg_trans hW h) | ((with_reducible refine HasV.call (hfo W) ?_); exact fun w' h => chg_trans hW h) | ((with_reducible refine HasV.call (hrfo W) ?_); exact fun w' h => chg_trans hW h)))); simp only [Act.put, List.setIfInBounds_toArray, List.set_cons_zero, List.set_cons_succ]))
        refine wpDet_nil ?_
        intro W hW
        have hdec := decode_of W A4 d4 l (HR4.out.chg (chg_trans HC45.out hW) (fun _ _ => id)) HBL.out (by omega) (by have := HCAP4.out; omega)
        rw [← HL4.out, HDI.out] at hdec
        unfold DecPost cv at hdec
        simp only at hdec
        have HD := Lib.hid hdec
        have HCW := Lib.hid (chg_trans HC5.out hW)
        have hbw := chg_heap hW HB5.out
        have HBW := Lib.hid hbw
        clear hdec hW hbw
        go_wp2_with fail
        refine HD.out.mono ?_
        rintro e6 w6 ⟨A6, k6, B6, d6, rfl, hA6, hB6, hc6, hd6, hC6⟩
        have hC7 := (chg_trans HCW.out hC6).alloc (.cells #[.int .i64 kind, .int .i64 who, .int .u64 a, .int .u64 b, .int .u64 e, .slice A6 list.length k6, .slice B6 bytes.length d6] 60)
        have hbx := heap_alloc_ne (o := .cells #[.int .i64 kind, .int .i64 who, .int .u64 a, .int .u64 b, .int .u64 e, .slice A6 list.length k6, .slice B6 bytes.length d6] 60) (chg_heap hC6 HBW.out)
        have hbd := heap_alloc_at w6 (.cells #[.int .i64 kind, .int .i64 who, .int .u64 a, .int .u64 b, .int .u64 e, .slice A6 list.length k6, .slice B6 bytes.length d6] 60)
        have hsm := HSM.out A6 B6 k6 d6 _ hC7 (hA6.alloc _) (hB6.alloc _) (by omega)
        have HSM2 := Lib.hid hsm
        have HC7 := Lib.hid hC7
        obtain ⟨x0, x1, x2, x3, x4, x5, x6⟩ := read7 hbx
        obtain ⟨y0, y1, y2, y3, y4, y5, y6⟩ := read7 hbd
        clear hA6 hB6 hc6 hd6 hC6 hC7 hsm hbx hbd
        simp only []
        go_wp2_with fail
        refine HSM2.out.mono ?_
        rintro e8 w8 ⟨rfl, hC8⟩
        have HC8 := Lib.hid hC8
        clear hC8
        go_wp2
        go_ret
        exact ⟨by simp, chg_to_below (chg_trans HC7.out HC8.out)⟩
end Go.Proofs.Ytcdbchdlenkdgaa
