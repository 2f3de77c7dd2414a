/- The law SolutionOnce: its walk. -/
import Derived.Test.YtcdbchdlenkdgaaSl
set_option linter.unusedVariables false
set_option linter.unusedSimpArgs false
namespace Go.Proofs.Ytcdbchdlenkdgaa
open Go.RowKit Go.Ps

theorem set_bytes {l : List Int} (h : Bytes l) (j : Nat) (y : Int) (hy : 0 ≤ y ∧ y ≤ 255) : Bytes (l.set j y) := fun x hx => by
  rcases List.mem_or_eq_of_mem_set hx with h1 | h1
  · exact h x h1
  · subst h1; exact hy
set_option maxRecDepth 100000 in
set_option maxHeartbeats 4000000 in
theorem solutionOnce_walk (z : Sm) (at_ more : Int) (w : World) (hz : z.x.ok ∧ ReadsI w .i64 z.A z.x.com ∧ Reads3 w .i64 .i64 .u64 z.B z.x.edges) (ha : (Lit.int .u64 at_).wf = true) (hm : (Lit.int .u8 more).wf = true) :
    Calls Try.prog 11 #[z.v, .int .u64 at_, .int .u8 more] w fun e w' => e = .returned (.bool true) ∧ Below w.heap.size w w' := by
  obtain ⟨x, A, c, B, d⟩ := z
  unfold Sm.v at *
  simp only at *
  obtain ⟨hok, hA, hB⟩ := hz
  have henc := fun W (h : Chg (fun _ => False) w W) => sencode_any x A c B d W hok (hA.chg h (fun _ _ => id)) (hB.chg h (fun _ _ => id))
  have hsml := fun W => small_any x A B c d W
  have hfl := fun h => encS_short (x := x) h
  have hdc := fun k hk hf => decS_cut (x := x) hok hf k hk
  have hdm := fun y hy hf => decS_more (x := x) hok hf y hy
  have hpos : 0 < (encS x).length := by
    unfold encS numsS
    have := enc_pos (x.com.length : Int)
    simp only [encs, List.length_append]
    omega
  have hub := (u64_of_wf ha).1
  have hmb : 0 ≤ more ∧ more ≤ 255 := by
    have := bytes_of_wf (l := [more]) (by simpa using hm) more (by simp)
    exact this
  have hbl := encS_bytes x
  unfold SEncPost at henc
  unfold BoolPost at hsml
  obtain ⟨l, hl⟩ : ∃ l, l = encS x := ⟨_, rfl⟩
  obtain ⟨F, hF⟩ : ∃ F, F = formedS x := ⟨_, rfl⟩
  rw [← hl] at henc hfl hdc hdm hbl hpos
  rw [← hF] at henc hfl hdc hdm
  obtain ⟨com, edges, mn, sm, hi, lo⟩ := x
  unfold sv at *
  simp only at *
  clear hl hF hok hA hB hm ha
  obtain ⟨w1, hw1⟩ : ∃ w1, w1 = w.alloc (.cells #[.slice A com.length c, .slice B edges.length d, .int .u64 mn, .int .u64 sm, .int .u64 hi, .int .u64 lo] 49) := ⟨_, rfl⟩
  have hC1 : Chg (fun _ => False) w w1 := by rw [hw1]; exact (Chg.refl _ _).alloc _
  have hg1 : w1.heap[w.heap.size]? = some (.cells #[.slice A com.length c, .slice B edges.length d, .int .u64 mn, .int .u64 sm, .int .u64 hi, .int .u64 lo] 49) := by rw [hw1]; exact heap_alloc_at _ _
  obtain ⟨g, hg⟩ : ∃ g, g = w.heap.size := ⟨_, rfl⟩
  rw [← hg] at hg1
  have HW := Lib.hid hw1
  have HC1 := Lib.hid hC1
  have HG := Lib.hid hg1
  have HGE := Lib.hid hg
  clear hw1 hC1 hg1 hg
  by_cases hsm : com.length ≤ 100 ∧ edges.length ≤ 600
  · rw [decide_eq_true hsm] at hsml
    obtain ⟨hs1, hs2⟩ := hsm
    cases F with
    | false =>
      clear hfl hdc hdm hbl hpos
      simp only [Bool.false_eq_true, if_false] at henc
      have HE := Lib.hid henc
      clear henc
      go_enter Try.func11, Try.ntmps11
      go_upto_region 1 with (fail)
      rw [← HW.out, ← HGE.out]
      clear HW HGE
      go_wp2_with fail
      refine (awake15_any _).mono ?_
      rintro e1 w2 ⟨rfl, hC1⟩
      have hb := chg_heap hC1 HG.out
      obtain ⟨c0, c1, c2, c3, c4, c5⟩ := read6 hb
      have HC1b := Lib.hid (chg_trans HC1.out hC1)
      have HB1 := Lib.hid hb
      clear hb hC1
      go_wp2_with fail
      refine (hsml _).mono ?_
      rintro e2 w3 ⟨rfl, hC2⟩
      have hb := chg_heap hC2 HB1.out
      obtain ⟨c0, c1, c2, c3, c4, c5⟩ := read6 hb
      have HC2 := Lib.hid (chg_trans HC1b.out hC2)
      have HB2 := Lib.hid hb
      clear hb hC2
      have henc := HE.out w3 HC2.out
      have HENC := Lib.hid henc
      clear henc
      go_wp2_with fail
      refine HENC.out.mono ?_
      rintro e4 w4 ⟨v4, rfl, hN4⟩
      obtain ⟨A4, n4, d4, rfl, hn4, hr4⟩ := New.form3 hN4
      have HC4 := Lib.hid (chg_trans HC2.out hN4.2.1)
      clear hN4 hn4 hr4 HENC
      simp only []
      go_wp2
      go_ret
      exact ⟨by simp, chg_to_below HC4.out⟩
    | true =>
      simp only [if_true, forall_const] at henc hfl hdc hdm
      have HE := Lib.hid henc
      have HDC := Lib.hid hdc
      have HDM := Lib.hid hdm
      have HBL := Lib.hid hbl
      have HFL := Lib.hid hfl
      have HPOS := Lib.hid hpos
      clear henc hdc hdm hbl hfl hpos
      go_enter Try.func11, Try.ntmps11
      go_upto_region 1 with (fail)
      rw [← HW.out, ← HGE.out]
      clear HW HGE
      go_wp2_with fail
      refine (awake15_any _).mono ?_
      rintro e1 w2 ⟨rfl, hC1⟩
      have hb := chg_heap hC1 HG.out
      obtain ⟨c0, c1, c2, c3, c4, c5⟩ := read6 hb
      have HC1b := Lib.hid (chg_trans HC1.out hC1)
      have HB1 := Lib.hid hb
      clear hb hC1
      go_wp2_with fail
      refine (hsml _).mono ?_
      rintro e2 w3 ⟨rfl, hC2⟩
      have hb := chg_heap hC2 HB1.out
      obtain ⟨c0, c1, c2, c3, c4, c5⟩ := read6 hb
      have HC2 := Lib.hid (chg_trans HC1b.out hC2)
      have HB2 := Lib.hid hb
      clear hb hC2
      have henc := HE.out w3 HC2.out
      have HENC := Lib.hid henc
      clear henc
      go_wp2_with fail
      refine HENC.out.mono ?_
      rintro e4 w4 ⟨v4, rfl, hN4⟩
      obtain ⟨A4, n4, d4, rfl, hn4, hr4⟩ := New.form3 hN4
      have hcap := (New.cap hN4).2
      have hn2 := HFL.out
      have hn3 := HPOS.out
      rw [← hn4] at hn2 hn3 hcap
      have hz4 : ((n4 : Int) == 0) = false := by simp; omega
      have hwn : IntKind.u64.wrap (n4 : Int) = (n4 : Int) := u64wrap (by omega)
      obtain ⟨j, hj⟩ : ∃ j : Nat, at_.tmod (n4 : Int) = j := ⟨(at_.tmod (n4 : Int)).toNat, (Int.toNat_of_nonneg (Int.tmod_nonneg _ hub)).symm⟩
      have hjn : j < n4 := by have := Int.tmod_lt_of_pos at_ (show (0 : Int) < n4 by omega); omega
      have HC4 := Lib.hid (chg_trans HC2.out hN4.2.1)
      have HR4 := Lib.hid hr4
      have H4 := Lib.hid hn4
      -- one byte more
      obtain ⟨A9, n9, c9, w9, A10, n10, c10, w10, hrun9, hrun10, hN10⟩ := app_new w4 A4 n4 d4 l more hr4 hn4 (by omega)
      have h10 := (New.cap hN10)
      obtain ⟨_, _, _, heq, hx10, hr10⟩ := New.form3 hN10
      cases heq
      have hdec := sdecode_of w10 A10 c10 (l ++ [more]) hr10 (HBL.out.append (by intro y hy; simp at hy; subst hy; exact hmb)) (by rw [List.length_append, ← H4.out]; simp; omega) h10.2
      rw [HDM.out more hmb, ← h10.1] at hdec
      unfold SDecPost sv sol0 at hdec
      simp only [List.length_nil] at hdec
      have HD2 := Lib.hid hdec
      have HC10 := Lib.hid hN10.2.1
      have HJ := Lib.hid hj
      clear hN10 h10 hr10 hx10 hdec hN4 hn4 hr4 HENC hj
      simp only []
      go_wp2_with (first | (at_builtin; refine wpList_append_run rfl (.tmp 41) (.tmp 42) 22 rfl _ _ _ _ rfl rfl hrun9 ?_) | (at_builtin; refine wpList_append_run rfl (.tmp 43) (.tmp 45) 22 rfl _ _ _ _ rfl rfl hrun10 ?_))
      refine HD2.out.mono ?_
      rintro e11 w11 ⟨A2, c2, B2, d2, rfl, hA2, hB2, hc2, hd2, hC11⟩
      obtain ⟨w12, hw12⟩ : ∃ W, W = w11.alloc (.cells #[.slice A2 0 c2, .slice B2 0 d2, .int .u64 0, .int .u64 0, .int .u64 0, .int .u64 0] 49) := ⟨_, rfl⟩
      have hC12 : Chg (fun _ => False) w4 w12 := by rw [hw12]; exact chg_trans HC10.out (hC11.alloc _)
      obtain ⟨g12, hg12⟩ : ∃ g, g = w11.heap.size := ⟨_, rfl⟩
      -- cut off
      have hr12 := HR4.out.chg hC12 (fun _ _ => id)
      have hsub := hr12.sub 0 j (by rw [← H4.out]; omega) (A' := A4) (fun _ => map_add0 A4)
      rw [List.drop_zero] at hsub
      have hdec := sdecode_of w12 A4 d4 (l.take j) hsub (HBL.out.take j) (by rw [List.length_take, ← H4.out]; omega) (by rw [List.length_take, ← H4.out]; omega)
      rw [HDC.out j (by rw [← H4.out]; omega), List.length_take, ← H4.out, Nat.min_eq_left (Nat.le_of_lt hjn)] at hdec
      unfold SDecPost sv sol0 at hdec
      simp only [List.length_nil] at hdec
      have HD1 := Lib.hid hdec
      have HC12 := Lib.hid hC12
      have HW12 := Lib.hid hw12
      have HG12 := Lib.hid hg12
      have hj := HJ.out
      clear hA2 hB2 hc2 hd2 hC11 hrun9 hrun10 HD2 hw12 hg12 hC12 hr12 hsub hdec
      simp only []
      go_upto_region 7 with (fail)
      rw [← HW12.out, ← HG12.out]
      clear HG12 HW12
      go_wp2_with fail
      refine HD1.out.mono ?_
      rintro e13 w13 ⟨A5, c5, B5, d5, rfl, hA5, hB5, hc5, hd5, hC13⟩
      obtain ⟨w14, hw14⟩ : ∃ W, W = w13.alloc (.cells #[.slice A5 0 c5, .slice B5 0 d5, .int .u64 0, .int .u64 0, .int .u64 0, .int .u64 0] 49) := ⟨_, rfl⟩
      have hC14 : Chg (fun _ => False) w4 w14 := by rw [hw14]; exact chg_trans HC12.out (hC13.alloc _)
      obtain ⟨g14, hg14⟩ : ∃ g, g = w13.heap.size := ⟨_, rfl⟩
      -- turned
      obtain ⟨A15, c15, n15, w15, hap15, hN15⟩ := NewB.app (cB := d4) (new_lit w14 [] (by simp)) rfl H4.out.symm ((HR4.out.chg hC14 (fun _ _ => id)).alloc _) (by simp; omega)
      rw [List.nil_append] at hN15
      obtain ⟨g15, c15', cur, hv15, hob15, hg15, hx15⟩ := hN15.1.at_ (by rw [← H4.out]; omega)
      have hcap15 := (New.cap hN15).2
      obtain ⟨_, _, _, heq, hn15, _⟩ := New.form3 hN15
      cases heq
      rw [← H4.out] at hn15
      obtain rfl : n4 = n15 := hn15.symm
      obtain rfl : A15 = some ⟨g15, 0, none⟩ := (Value.slice.inj hv15).1
      have p15 := cell_of hg15 j (hx15 j (by rw [← H4.out]; omega))
      have f15 := frozen_of hg15 j
      obtain ⟨xj, hxj⟩ : ∃ y, y = l.getD j 0 := ⟨_, rfl⟩
      rw [← hxj] at p15
      obtain ⟨yj, hyj⟩ : ∃ y, y = bits .xor .u8 xj more := ⟨_, rfl⟩
      have hyb : 0 ≤ yj ∧ yj ≤ 255 := by rw [hyj]; exact ⟨bits_lo_u8 _ _ _, bits_hi_u8 _ _ _⟩
      have hst := hN15.1.store hob15 (i := j) (by rw [← H4.out]; omega) yj
      have hC16 : Chg (fun k => k = g15) w15 (w15.setCell ⟨g15, j, none⟩ (.int .u8 yj)) := chg_set_g (Chg.refl _ _) _ _
      have hfar15 := hN15.2.2 g15 hob15
      have hC17 : Chg (fun _ => False) w4 (w15.setCell ⟨g15, j, none⟩ (.int .u8 yj)) := (chg_trans hC14 hN15.2.1).trans hC16 (fun k hk e => by have := hC14.size; omega)
      obtain ⟨w16, hw16⟩ : ∃ W, W = w15.setCell ⟨g15, j, none⟩ (.int .u8 yj) := ⟨_, rfl⟩
      rw [← hw16] at hst hC17
      obtain ⟨L, hL⟩ : ∃ L, L = l.set j yj := ⟨_, rfl⟩
      rw [← hL] at hst
      have hLl : L.length = n4 := by rw [hL, List.length_set]; exact H4.out.symm
      have hLb : Bytes L := by rw [hL]; exact set_bytes HBL.out j yj hyb
      have hr16 : ReadsI w16 .u8 (some ⟨g15, 0, none⟩) L := by
        obtain ⟨_, _, hv, hr, _⟩ := hst.form
        cases hv
        exact hr
      have hdec := sdecode_of w16 (some ⟨g15, 0, none⟩) c15 L hr16 hLb (by omega) (by rw [hLl]; rw [← H4.out] at hcap15; exact hcap15)
      have hiff := fun y => decS_iff hLb y
      have herr := decS_err L
      rw [if_neg (by omega)] at herr
      obtain ⟨⟨y, e16⟩, hye⟩ : ∃ r, r = decS L := ⟨_, rfl⟩
      rw [← hye] at hdec herr hiff
      rw [hLl] at hdec
      unfold SDecPost sv at hdec
      simp only at hdec
      have HD3 := Lib.hid hdec
      have HC14 := Lib.hid hC14
      have HC17 := Lib.hid hC17
      have HW14 := Lib.hid hw14
      have HG14 := Lib.hid hg14
      have HW16 := Lib.hid hw16
      have HAP := Lib.hid hap15
      have HY := Lib.hid hyj
      have HR16 := Lib.hid hr16
      have HLL := Lib.hid hLl
      have HP := Lib.hid (And.intro p15 f15)
      have hfin : ∃ A17, Hid (y.ok) ∧ Hid ((e16 = 0 ∧ formedS y = true ∧ encS y = L) ∨ (e16 = 2 ∧ y = sol0)) ∧ A17 = 0 := by
        refine ⟨0, Lib.hid ?_, Lib.hid ?_, rfl⟩
        · rcases herr with h | h
          · obtain ⟨h1, h2, h3⟩ := (hiff y).1 (Prod.ext rfl h)
            exact h1
          · rw [(Prod.mk.inj h).1]; exact sol0_ok
        · rcases herr with h | h
          · obtain ⟨h1, h2, h3⟩ := (hiff y).1 (Prod.ext rfl h)
            exact .inl ⟨h, h2, h3⟩
          · exact .inr ⟨(Prod.mk.inj h).2, (Prod.mk.inj h).1⟩
      obtain ⟨_, HYOK, HFIN, _⟩ := hfin
      clear hA5 hB5 hc5 hd5 hC13 HD1 hw14 hg14 hC14 hap15 hN15 hv15 hob15 hg15 hx15 hcap15 p15 f15 hxj hyj hst hC16 hfar15 hC17 hw16 hL hLl hLb hr16 hdec hiff herr hye
      simp only []
      go_upto_region 8 with (fail)
      rw [← HW14.out, ← HG14.out]
      clear HG14 HW14
      have hap := HAP.out
      obtain ⟨p15, f15⟩ := HP.out
      go_upto_region 10 with (at_builtin; refine wpList_append_run rfl (.tmp 61) (.tmp 62) 22 rfl _ _ _ _ rfl rfl hap ?_)
      rw [← HY.out, ← HW16.out]
      clear hap p15 f15 HAP HY HW16 HP hj
      go_wp2_with fail
      refine HD3.out.mono ?_
      rintro e18 w18 ⟨A6, c6, B6, d6, rfl, hA6, hB6, hc6, hd6, hC18⟩
      obtain ⟨w19, hw19⟩ : ∃ W, W = w18.alloc (.cells #[.slice A6 y.com.length c6, .slice B6 y.edges.length d6, .int .u64 y.mn, .int .u64 y.sm, .int .u64 y.hi, .int .u64 y.lo] 49) := ⟨_, rfl⟩
      have hb19 : w19.heap[w18.heap.size]? = some (.cells #[.slice A6 y.com.length c6, .slice B6 y.edges.length d6, .int .u64 y.mn, .int .u64 y.sm, .int .u64 y.hi, .int .u64 y.lo] 49) := by rw [hw19]; exact heap_alloc_at _ _
      obtain ⟨g19, hg19⟩ : ∃ g, g = w18.heap.size := ⟨_, rfl⟩
      rw [← hg19] at hb19
      obtain ⟨y0, y1, y2, y3, y4, y5⟩ := read6 hb19
      have hC19 : Chg (fun _ => False) w16 w19 := by rw [hw19]; exact hC18.alloc _
      have henc := sencode_any y A6 c6 B6 d6 w19 HYOK.out (by rw [hw19]; exact hA6.alloc _) (by rw [hw19]; exact hB6.chg ((Chg.refl (fun _ => False) _).alloc _) (fun _ _ => id))
      unfold SEncPost sv at henc
      have HENC := Lib.hid henc
      have HW19 := Lib.hid hw19
      have HG19 := Lib.hid hg19
      have HC19 := Lib.hid hC19
      clear hA6 hB6 hc6 hd6 hC18 hw19 hb19 hg19 hC19 henc HD3
      simp only []
      go_upto_region 11 with (fail)
      rw [← HW19.out, ← HG19.out]
      clear HW19 HG19
      have fin : ∀ W, Chg (fun _ => False) w19 W → Below w.heap.size w W := fun W hW => chg_to_below (chg_trans HC4.out (chg_trans HC17.out (chg_trans HC19.out hW)))
      have FIN := Lib.hid fin
      clear fin
      go_wp2_with fail
      refine HENC.out.mono ?_
      rintro e20 w20 ⟨v20, rfl, hN20⟩
      obtain ⟨A20, n20, d20, rfl, hn20, hr20⟩ := New.form3 hN20
      have HF := Lib.hid (FIN.out w20 hN20.2.1)
      rcases HFIN.out with ⟨rfl, hfy, hey⟩ | ⟨rfl, hy0⟩
      · rw [hfy, if_pos rfl, hey] at hn20 hr20
        rw [hfy, if_pos rfl]
        obtain ⟨S, hS⟩ : ∃ S, S = strOf L := ⟨_, rfl⟩
        have hs1 : (convert 22 9 (.slice A20 n20 d20)).run Try.prog w20 = .ok (.string S) w20 := by rw [hS]; exact str_at hr20 hn20 (Chg.refl _ _)
        have hs2 : (convert 22 9 (.slice (some ⟨g15, 0, none⟩) n4 c15)).run Try.prog w20 = .ok (.string S) w20 := by rw [hS]; exact str_at HR16.out HLL.out.symm (chg_trans HC19.out hN20.2.1)
        clear hN20 hn20 hr20 hfy hey hS y0 y1 y2 y3 y4 y5
        simp only []
        go_wp2
        go_ret
        exact ⟨by simp, HF.out⟩
      · have hfy : formedS y = true := by rw [hy0]; exact sol0_formed
        rw [hfy, if_pos rfl]
        clear hN20 hn20 hr20 hy0 hfy y0 y1 y2 y3 y4 y5
        simp only []
        go_wp2
        go_ret
        exact ⟨by simp, HF.out⟩
  · rw [decide_eq_false hsm] at hsml
    clear hfl hdc hdm henc hbl hsm hpos
    go_enter Try.func11, Try.ntmps11
    go_upto_region 1 with (fail)
    rw [← HW.out, ← HGE.out]
    clear HW HGE
    go_wp2_with fail
    refine (awake15_any _).mono ?_
    rintro e1 w2 ⟨rfl, hC1⟩
    have hb := chg_heap hC1 HG.out
    obtain ⟨c0, c1, c2, c3, c4, c5⟩ := read6 hb
    have HC1b := Lib.hid (chg_trans HC1.out hC1)
    have HB1 := Lib.hid hb
    clear hb hC1
    go_wp2_with fail
    refine (hsml _).mono ?_
    rintro e2 w3 ⟨rfl, hC2⟩
    have hb := chg_heap hC2 HB1.out
    obtain ⟨c0, c1, c2, c3, c4, c5⟩ := read6 hb
    have HC2 := Lib.hid (chg_trans HC1b.out hC2)
    have HB2 := Lib.hid hb
    clear hb hC2
    go_wp2_with fail
    refine (awake15_any _).mono ?_
    rintro e4 w4 ⟨rfl, hC4⟩
    have HC4 := Lib.hid (chg_trans HC2.out hC4)
    clear hC4
    go_wp2
    go_ret
    exact ⟨rfl, chg_to_below HC4.out⟩
end Go.Proofs.Ytcdbchdlenkdgaa
