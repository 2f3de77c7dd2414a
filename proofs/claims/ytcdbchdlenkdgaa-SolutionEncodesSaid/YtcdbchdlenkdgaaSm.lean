/- The law SolutionEncodes: its walk. -/
import Derived.Test.YtcdbchdlenkdgaaSl
set_option linter.unusedVariables false
set_option linter.unusedSimpArgs false
namespace Go.Proofs.Ytcdbchdlenkdgaa
open Go.RowKit Go.Ps

set_option maxRecDepth 100000 in
set_option maxHeartbeats 4000000 in
theorem solutionEncodes_walk (z : Sm) (w : World) (hz : z.x.ok ∧ ReadsI w .i64 z.A z.x.com ∧ Reads3 w .i64 .i64 .u64 z.B z.x.edges) :
    Calls Try.prog 9 #[z.v] w fun e w' => e = .returned (.bool true) ∧ Below w.heap.size w w' := by
  obtain ⟨x, A, c, B, d⟩ := z
  unfold Sm.v at *
  simp only at *
  obtain ⟨hok, hA, hB⟩ := hz
  have henc := fun W (h : Chg (fun _ => False) w W) => sencode_any x A c B d W hok (hA.chg h (fun _ _ => id)) (hB.chg h (fun _ _ => id))
  have hrenc := fun W (h : Chg (fun _ => False) w W) => rsencode_any x A c B d W hok (hA.chg h (fun _ _ => id)) (hB.chg h (fun _ _ => id))
  have hfo := fun W (h : Chg (fun _ => False) w W) => sformed_any x A c B d W (hA.chg h (fun _ _ => id)) (hB.chg h (fun _ _ => id))
  have hrfo := fun W (h : Chg (fun _ => False) w W) => rsformed_any x A c B d W (hA.chg h (fun _ _ => id)) (hB.chg h (fun _ _ => id))
  have hsml := fun W => small_any x A B c d W
  have hsame := fun A2 B2 c2 d2 W (h : Chg (fun _ => False) w W) hA2 hB2 hl1 hl2 => same_sol_any x A2 B2 A B c2 d2 c d W hA2 hB2 (hA.chg h (fun _ _ => id)) (hB.chg h (fun _ _ => id)) hl1 hl2
  have hfl := fun h => encS_short (x := x) h
  have hdi := fun hf => (decS_iff (encS_bytes x) x).2 ⟨hok, hf, rfl⟩
  have hbl := encS_bytes x
  unfold SEncPost at henc hrenc
  unfold BoolPost at hfo hrfo hsame hsml
  obtain ⟨l, hl⟩ : ∃ l, l = encS x := ⟨_, rfl⟩
  obtain ⟨F, hF⟩ : ∃ F, F = formedS x := ⟨_, rfl⟩
  rw [← hl] at henc hrenc hfl hdi hbl
  rw [← hF] at henc hrenc hfl hdi hfo hrfo
  obtain ⟨com, edges, mn, sm, hi, lo⟩ := x
  unfold sv at *
  simp only at *
  clear hl hF hok
  obtain ⟨w1, hw1⟩ : ∃ w1, w1 = w.alloc (.cells #[.slice A com.length c, .slice B edges.length d, .int .u64 mn, .int .u64 sm, .int .u64 hi, .int .u64 lo] 49) := ⟨_, rfl⟩
  have hC1 : Chg (fun _ => False) w w1 := by rw [hw1]; exact (Chg.refl _ _).alloc _
  have hg1 : w1.heap[w.heap.size]? = some (.cells #[.slice A com.length c, .slice B edges.length d, .int .u64 mn, .int .u64 sm, .int .u64 hi, .int .u64 lo] 49) := by rw [hw1]; exact heap_alloc_at _ _
  obtain ⟨g, hg⟩ : ∃ g, g = w.heap.size := ⟨_, rfl⟩
  rw [← hg] at hg1
  have HW := Lib.hid hw1
  have HC1 := Lib.hid hC1
  have HG := Lib.hid hg1
  have HGE := Lib.hid hg
  have HA := Lib.hid hA
  have HB := Lib.hid hB
  clear hw1 hC1 hg1 hg hA hB
  by_cases hsm : com.length ≤ 100 ∧ edges.length ≤ 600
  · rw [decide_eq_true hsm] at hsml
    obtain ⟨hs1, hs2⟩ := hsm
    cases F with
    | false =>
      clear hfl hdi hbl hsame
      simp only [Bool.false_eq_true, if_false] at henc hrenc
      have HE := Lib.hid henc
      have HER := Lib.hid hrenc
      have HFO := Lib.hid hfo
      have HRFO := Lib.hid hrfo
      clear henc hrenc hfo hrfo
      go_enter Try.func9, Try.ntmps9
      go_upto_region 1 with (fail)
      rw [← HW.out, ← HGE.out]
      clear HW HGE
      go_wp2_with fail
      refine (awake15_any _).mono ?_
      rintro e1 w2 ⟨rfl, hC1⟩
      have hb := chg_heap hC1 HG.out
      obtain ⟨c0, c1, c2, c3, c4, c5⟩ := read6 hb
      have HC1b := Lib.hid (chg_trans HC1.out hC1)
      have HB1 := Lib.hid hb
      clear hb hC1
      go_wp2_with fail
      refine (hsml _).mono ?_
      rintro e2 w3 ⟨rfl, hC2⟩
      have hb := chg_heap hC2 HB1.out
      obtain ⟨c0, c1, c2, c3, c4, c5⟩ := read6 hb
      have HC2 := Lib.hid (chg_trans HC1b.out hC2)
      have HB2 := Lib.hid hb
      clear hb hC2
      have henc := HE.out w3 HC2.out
      have HENC := Lib.hid henc
      clear henc
      go_wp2_with fail
      refine HENC.out.mono ?_
      rintro e4 w4 ⟨v4, rfl, hN4⟩
      obtain ⟨A4, n4, d4, rfl, hn4, hr4⟩ := New.form3 hN4
      have hcap4 := (New.cap hN4).2
      have hb := chg_heap hN4.2.1 HB2.out
      obtain ⟨c0, c1, c2, c3, c4, c5⟩ := read6 hb
      have hC4 := chg_trans HC2.out hN4.2.1
      have hrenc := HER.out w4 hC4
      have HC4 := Lib.hid hC4
      have HB4 := Lib.hid hb
      have HRENC := Lib.hid hrenc
      have HR4 := Lib.hid hr4
      have HL4 := Lib.hid hn4
      have HCAP4 := Lib.hid hcap4
      clear hC4 hrenc hb hr4 hn4 hcap4 hN4 HENC
      simp only []
      go_wp2_with fail
      refine HRENC.out.mono ?_
      rintro e5 w5 ⟨v5, rfl, hN5⟩
      obtain ⟨A5, n5, d5, rfl, hn5, hr5⟩ := New.form3 hN5
      have hb := chg_heap hN5.2.1 HB4.out
      have HB5 := Lib.hid hb
      have hS4 : ∀ W, Chg (fun _ => False) w5 W → (convert 22 9 (.slice A4 n4 d4)).run Try.prog W = .ok (.string (strOf [])) W := fun W hW => str_at HR4.out HL4.out (chg_trans hN5.2.1 hW)
      have hS5 : ∀ W, Chg (fun _ => False) w5 W → (convert 22 9 (.slice A5 n5 d5)).run Try.prog W = .ok (.string (strOf [])) W := fun W hW => str_at hr5 hn5 hW
      obtain ⟨S, hS⟩ : ∃ S, S = strOf [] := ⟨_, rfl⟩
      rw [← hS] at hS4 hS5
      have HC5 := Lib.hid (chg_trans HC4.out hN5.2.1)
      have HC45 := Lib.hid hN5.2.1
      have HS4 := Lib.hid hS4
      have HS5 := Lib.hid hS5
      clear hS hS4 hS5 hN5 hn5 hr5 hb HRENC
      simp only []
      have hdec := fun W (hW : Chg (fun _ => False) w5 W) => sdecode_of W A4 d4 [] (HR4.out.chg (chg_trans HC45.out hW) (fun _ _ => id)) (by simp [Bytes]) (by simp) (by simp)
      go_wp2_with fail
      refine wp_region_same (fun W => Chg (fun _ => False) w5 W) (by kernel_rfl) (by kernel_rfl) ((Chg.refl _ _).drew) ?_
      repeat (first | (refine wpDet_skip (by rfl) ?_; simp only [Act.put, List.setIfInBounds_toArray, List.set_cons_zero, List.set_cons_succ]) | (apply wpDet_step (by rfl); (focus (intro W hW; obtain ⟨x0, x1, x2, x3, x4, x5⟩ := read6 (chg_heap hW HB5.out); have hs4 := HS4.out W hW; have hs5 := HS5.out W hW; go_simp; (first | (with_reducible exact HasV.val hW) | ((with_reducible refine HasV.call (HFO.out W (chg_trans HC5.out hW)) ?_); exact fun w' h => chg_trans hW h) | ((with_reducible refine HasV.call (HRFO.out W (chg_trans HC5.out hW)) ?_); exact fun w' h => chg_trans hW h)))); simp only [Act.put, List.setIfInBounds_toArray, List.set_cons_zero, List.set_cons_succ]))
      refine wpDet_nil ?_
      intro W hW
      have h4 := HL4.out
      have hdec := hdec W hW
      rw [← HL4.out] at hdec
      obtain ⟨r, hr⟩ : ∃ r, r = decS [] := ⟨_, rfl⟩
      rw [← hr] at hdec
      unfold SDecPost sv at hdec
      have HD := Lib.hid hdec
      have HCW := Lib.hid hW
      clear hdec hr h4 hW
      go_wp2_with fail
      refine HD.out.mono ?_
      rintro e6 w6 ⟨A6, c6, B6, d6, rfl, hA6, hB6, hc6, hd6, hC6⟩
      have HC6 := Lib.hid hC6
      clear hA6 hB6 hc6 hd6 hC6
      simp only []
      go_wp2
      go_ret
      exact ⟨by simp, chg_to_below (chg_trans HC5.out (chg_trans HCW.out (HC6.out.alloc _)))⟩
    | true =>
      simp only [if_true, forall_const] at henc hrenc hfl hdi
      have HE := Lib.hid henc
      have HER := Lib.hid hrenc
      have HFO := Lib.hid hfo
      have HRFO := Lib.hid hrfo
      have HDI := Lib.hid hdi
      have HBL := Lib.hid hbl
      have HSM := Lib.hid hsame
      have HFL := Lib.hid hfl
      clear henc hrenc hfo hrfo hdi hbl hsame hfl
      go_enter Try.func9, Try.ntmps9
      go_upto_region 1 with (fail)
      rw [← HW.out, ← HGE.out]
      clear HW HGE
      go_wp2_with fail
      refine (awake15_any _).mono ?_
      rintro e1 w2 ⟨rfl, hC1⟩
      have hb := chg_heap hC1 HG.out
      obtain ⟨c0, c1, c2, c3, c4, c5⟩ := read6 hb
      have HC1b := Lib.hid (chg_trans HC1.out hC1)
      have HB1 := Lib.hid hb
      clear hb hC1
      go_wp2_with fail
      refine (hsml _).mono ?_
      rintro e2 w3 ⟨rfl, hC2⟩
      have hb := chg_heap hC2 HB1.out
      obtain ⟨c0, c1, c2, c3, c4, c5⟩ := read6 hb
      have HC2 := Lib.hid (chg_trans HC1b.out hC2)
      have HB2 := Lib.hid hb
      clear hb hC2
      have henc := HE.out w3 HC2.out
      have HENC := Lib.hid henc
      clear henc
      go_wp2_with fail
      refine HENC.out.mono ?_
      rintro e4 w4 ⟨v4, rfl, hN4⟩
      obtain ⟨A4, n4, d4, rfl, hn4, hr4⟩ := New.form3 hN4
      have hcap4 := (New.cap hN4).2
      have hb := chg_heap hN4.2.1 HB2.out
      obtain ⟨c0, c1, c2, c3, c4, c5⟩ := read6 hb
      have hC4 := chg_trans HC2.out hN4.2.1
      have hrenc := HER.out w4 hC4
      have HC4 := Lib.hid hC4
      have HB4 := Lib.hid hb
      have HRENC := Lib.hid hrenc
      have HR4 := Lib.hid hr4
      have HL4 := Lib.hid hn4
      have HCAP4 := Lib.hid hcap4
      clear hC4 hrenc hb hr4 hn4 hcap4 hN4 HENC
      simp only []
      go_wp2_with fail
      refine HRENC.out.mono ?_
      rintro e5 w5 ⟨v5, rfl, hN5⟩
      obtain ⟨A5, n5, d5, rfl, hn5, hr5⟩ := New.form3 hN5
      have hb := chg_heap hN5.2.1 HB4.out
      have HB5 := Lib.hid hb
      have hS4 : ∀ W, Chg (fun _ => False) w5 W → (convert 22 9 (.slice A4 n4 d4)).run Try.prog W = .ok (.string (strOf l)) W := fun W hW => str_at HR4.out HL4.out (chg_trans hN5.2.1 hW)
      have hS5 : ∀ W, Chg (fun _ => False) w5 W → (convert 22 9 (.slice A5 n5 d5)).run Try.prog W = .ok (.string (strOf l)) W := fun W hW => str_at hr5 hn5 hW
      obtain ⟨S, hS⟩ : ∃ S, S = strOf l := ⟨_, rfl⟩
      rw [← hS] at hS4 hS5
      have HC5 := Lib.hid (chg_trans HC4.out hN5.2.1)
      have HC45 := Lib.hid hN5.2.1
      have HS4 := Lib.hid hS4
      have HS5 := Lib.hid hS5
      clear hS hS4 hS5 hN5 hn5 hr5 hb HRENC
      simp only []
      go_wp2_with fail
      refine wp_region_same (fun W => Chg (fun _ => False) w5 W) (by kernel_rfl) (by kernel_rfl) ((Chg.refl _ _).drew) ?_
      repeat (first | (refine wpDet_skip (by rfl) ?_; simp only [Act.put, List.setIfInBounds_toArray, List.set_cons_zero, List.set_cons_succ]) | (apply wpDet_step (by rfl); (focus (intro W hW; obtain ⟨x0, x1, x2, x3, x4, x5⟩ := read6 (chg_heap hW HB5.out); have hs4 := HS4.out W hW; have hs5 := HS5.out W hW; go_simp; (first | (with_reducible exact HasV.val hW) | ((with_reducible refine HasV.call (HFO.out W (chg_trans HC5.out hW)) ?_); exact fun w' h => chg_trans hW h) | ((with_reducible refine HasV.call (HRFO.out W (chg_trans HC5.out hW)) ?_); exact fun w' h => chg_trans hW h)))); simp only [Act.put, List.setIfInBounds_toArray, List.set_cons_zero, List.set_cons_succ]))
      refine wpDet_nil ?_
      intro W hW
      have hdec := sdecode_of W A4 d4 l (HR4.out.chg (chg_trans HC45.out hW) (fun _ _ => id)) HBL.out (by have := HFL.out; omega) (by have := HCAP4.out; omega)
      rw [← HL4.out, HDI.out] at hdec
      unfold SDecPost sv at hdec
      simp only at hdec
      have HD := Lib.hid hdec
      have HCW := Lib.hid (chg_trans HC5.out hW)
      have hbw := chg_heap hW HB5.out
      have HBW := Lib.hid hbw
      clear hdec hW hbw
      go_wp2_with fail
      refine HD.out.mono ?_
      rintro e6 w6 ⟨A6, k6, B6, d6, rfl, hA6, hB6, hc6, hd6, hC6⟩
      have hC7 := (chg_trans HCW.out hC6).alloc (.cells #[.slice A6 com.length k6, .slice B6 edges.length d6, .int .u64 mn, .int .u64 sm, .int .u64 hi, .int .u64 lo] 49)
      have hbx := heap_alloc_ne (o := .cells #[.slice A6 com.length k6, .slice B6 edges.length d6, .int .u64 mn, .int .u64 sm, .int .u64 hi, .int .u64 lo] 49) (chg_heap hC6 HBW.out)
      have hbd := heap_alloc_at w6 (.cells #[.slice A6 com.length k6, .slice B6 edges.length d6, .int .u64 mn, .int .u64 sm, .int .u64 hi, .int .u64 lo] 49)
      have hsm := HSM.out A6 B6 k6 d6 _ hC7 (hA6.alloc _) (hB6.chg ((Chg.refl (fun _ => False) _).alloc _) (fun _ _ => id)) (by omega) (by omega)
      have HSM2 := Lib.hid hsm
      have HC7 := Lib.hid hC7
      obtain ⟨x0, x1, x2, x3, x4, x5⟩ := read6 hbx
      obtain ⟨y0, y1, y2, y3, y4, y5⟩ := read6 hbd
      clear hA6 hB6 hc6 hd6 hC6 hC7 hsm hbx hbd
      simp only []
      go_wp2_with fail
      refine HSM2.out.mono ?_
      rintro e8 w8 ⟨rfl, hC8⟩
      have HC8 := Lib.hid hC8
      clear hC8
      go_wp2
      go_ret
      exact ⟨by simp, chg_to_below (chg_trans HC7.out HC8.out)⟩
  · rw [decide_eq_false hsm] at hsml
    clear hfl hdi henc hrenc hfo hrfo hsame hbl hsm
    go_enter Try.func9, Try.ntmps9
    go_upto_region 1 with (fail)
    rw [← HW.out, ← HGE.out]
    clear HW HGE
    go_wp2_with fail
    refine (awake15_any _).mono ?_
    rintro e1 w2 ⟨rfl, hC1⟩
    have hb := chg_heap hC1 HG.out
    obtain ⟨c0, c1, c2, c3, c4, c5⟩ := read6 hb
    have HC1b := Lib.hid (chg_trans HC1.out hC1)
    have HB1 := Lib.hid hb
    clear hb hC1
    go_wp2_with fail
    refine (hsml _).mono ?_
    rintro e2 w3 ⟨rfl, hC2⟩
    have hb := chg_heap hC2 HB1.out
    obtain ⟨c0, c1, c2, c3, c4, c5⟩ := read6 hb
    have HC2 := Lib.hid (chg_trans HC1b.out hC2)
    have HB2 := Lib.hid hb
    clear hb hC2
    go_wp2_with fail
    refine (awake15_any _).mono ?_
    rintro e4 w4 ⟨rfl, hC4⟩
    have HC4 := Lib.hid (chg_trans HC2.out hC4)
    clear hC4
    go_wp2
    go_ret
    exact ⟨rfl, chg_to_below HC4.out⟩
end Go.Proofs.Ytcdbchdlenkdgaa
