/- Solutions: whether the document calls one formed. -/
import Derived.Test.YtcdbchdlenkdgaaSa
set_option linter.unusedVariables false
set_option linter.unusedSimpArgs false
namespace Go.Proofs.Ytcdbchdlenkdgaa
open Go.RowKit Go.Ps

theorem i64wrap_id {n : Int} (h : -9223372036854775808 ≤ n ∧ n ≤ 9223372036854775807) : IntKind.i64.wrap n = n := by simp [IntKind.wrap, IntKind.bits, IntKind.signed]; omega
set_option maxRecDepth 100000 in
set_option maxHeartbeats 8000000 in
theorem rsformed_any (x : Sol) (A : Option Addr) (c : Nat) (B : Option Addr) (d : Nat) (w : World) (hA : ReadsI w .i64 A x.com) (hB : Reads3 w .i64 .i64 .u64 B x.edges) : Calls Try.prog 32 #[sv x A c B d] w (BoolPost (formedS x) w) := by
  have hnot := fun h => formedS_not (x := x) h
  have hyes := (formedS_iff x).2
  obtain ⟨com, edges, mn, sm, hi, lo⟩ := x
  unfold sv
  simp only at *
  obtain ⟨F, hF⟩ : ∃ F, F = formedS ⟨com, edges, mn, sm, hi, lo⟩ := ⟨_, rfl⟩
  rw [← hF] at hnot hyes ⊢
  clear hF
  by_cases h8 : 8 < com.length
  · have e := hnot (.inr (.inr (.inl h8)))
    subst e
    clear hnot hyes
    go_enter Try.func32, Try.ntmps32
    go_wp2
    go_ret
    exact ⟨rfl, (Chg.refl _ _).alloc _⟩
  by_cases h256 : 256 < edges.length
  · have e := hnot (.inr (.inr (.inr h256)))
    subst e
    clear hnot hyes
    go_enter Try.func32, Try.ntmps32
    go_wp2
    go_ret
    exact ⟨rfl, (Chg.refl _ _).alloc _⟩
  obtain ⟨w1, hw1⟩ : ∃ w1, w1 = w.alloc (.cells #[.slice A com.length c, .slice B edges.length d, .int .u64 mn, .int .u64 sm, .int .u64 hi, .int .u64 lo] 49) := ⟨_, rfl⟩
  have hC1 : Chg (fun _ => False) w w1 := by rw [hw1]; exact (Chg.refl _ _).alloc _
  have hg1 : w1.heap[w.heap.size]? = some (.cells #[.slice A com.length c, .slice B edges.length d, .int .u64 mn, .int .u64 sm, .int .u64 hi, .int .u64 lo] 49) := by rw [hw1]; exact heap_alloc_at _ _
  have hA1 := hA.chg hC1 (fun _ _ => id)
  have hB1 := hB.chg hC1 (fun _ _ => id)
  obtain ⟨g, hg⟩ : ∃ g, g = w.heap.size := ⟨_, rfl⟩
  rw [← hg] at hg1
  obtain ⟨c0, c1, c2, c3, c4, c5⟩ := read6 hg1
  have HNOT := Lib.hid hnot
  have HYES := Lib.hid hyes
  have HW := Lib.hid hw1
  have HC1 := Lib.hid hC1
  have HG := Lib.hid hg1
  have HA := Lib.hid hA1
  have HB := Lib.hid hB1
  have HGE := Lib.hid hg
  clear hnot hyes hw1 hC1 hg1 hA hB hA1 hB1 hg
  go_enter Try.func32, Try.ntmps32
  go_upto_region 1 with (fail)
  rw [← HW.out, ← HGE.out]
  clear HW HGE
  go_wp2
  go_loopw [19] (fun i wr => ∃ k : Nat, k ≤ com.length ∧ i = .int .i64 k ∧ Hid (∀ j, j < k → comAt com j = true) ∧ Hid (Chg (fun _ => False) w1 wr)) (fun i _ => com.length - (intOf i).toNat)
  case atStart => exact ⟨0, by omega, rfl, Lib.hid (fun j hj => by omega), Lib.hid (Chg.refl _ _)⟩
  case round =>
    obtain ⟨k, hk, rfl, hall, hcr⟩ := hrel
    have HCR := Lib.hid (chg_trans HC1.out hcr.out)
    obtain ⟨x0, x1, x2, x3, x4, x5⟩ := read6 (chg_heap hcr.out HG.out)
    clear c0 c1 c2 c3 c4 c5
    by_cases hk2 : k < com.length
    · obtain ⟨ga, oa, rfl, hx⟩ := (HA.out.chg hcr.out (fun _ _ => id)).plain (by rintro rfl; simp at hk2)
      have p1 := hx k hk2
      have hcom := comAt_iff com k
      have hno := comAt_no (l := com) (k := k)
      have hst : comAt com k = true → ∀ j, j < k + 1 → comAt com j = true := fun h j hj => by
        by_cases e : j = k
        · subst e; exact h
        · exact hall.out j (by omega)
      have hF : comAt com k = false → F = false := fun h => HNOT.out (.inl ⟨k, hk2, h⟩)
      by_cases hz : k = 0
      · subst hz
        obtain ⟨p, hp⟩ : ∃ p, p = com.getD 0 0 := ⟨_, rfl⟩
        rw [← hp] at p1 hcom hno
        rw [Nat.add_zero] at p1
        cases hw : w31 p with
        | false =>
          have e := hF (hno (by rw [hw]; simp))
          subst e
          have H48 := within_any p
          rw [hw] at H48
          clear hno hst hF hcom hp hx hall hw
          go_wp2_with fail
          go_quiet ((go_at_call 48; exact Calls.quiet_of_same ((H48 _).mono fun e w' h => ⟨h.1, h.2.symm⟩)))
          go_wp2_with fail
          go_ret
          exact ⟨rfl, HCR.out.drewN _⟩
        | true =>
          have HST := Lib.hid (hst (hcom.2 ⟨hw, by simp⟩))
          have H48 := within_any p
          rw [hw] at H48
          clear hno hst hF hcom hp hx hall hw
          go_wp2_with fail
          go_quiet ((go_at_call 48; exact Calls.quiet_of_same ((H48 _).mono fun e w' h => ⟨h.1, h.2.symm⟩)))
          go_wp2_with fail
          go_roundw
          case rel => exact ⟨1, by omega, by go_num, HST, Lib.hid (hcr.out.drewN _)⟩
          case measure => simp [intOf]; omega
      · have p2 := hx (k - 1) (by omega)
        obtain ⟨p, hp⟩ : ∃ p, p = com.getD k 0 := ⟨_, rfl⟩
        obtain ⟨q, hq⟩ : ∃ q, q = com.getD (k - 1) 0 := ⟨_, rfl⟩
        rw [← hp] at p1 hcom hno
        rw [← hq] at p2 hcom hno
        have hkp : 0 < k := by omega
        cases hw : w31 p with
        | false =>
          have e := hF (hno (by rw [hw]; simp))
          subst e
          have H48 := within_any p
          rw [hw] at H48
          clear hno hst hF hcom hp hx hall hw hq p2 hz
          go_wp2_with fail
          go_quiet ((go_at_call 48; exact Calls.quiet_of_same ((H48 _).mono fun e w' h => ⟨h.1, h.2.symm⟩)))
          go_wp2_with fail
          go_ret
          exact ⟨rfl, HCR.out.drewN _⟩
        | true =>
          have H48 := within_any p
          rw [hw] at H48
          by_cases hlt : q < p
          · have HST := Lib.hid (hst (hcom.2 ⟨hw, fun _ => hlt⟩))
            clear hno hst hF hcom hp hx hall hw hq hz
            go_wp2_with fail
            go_quiet ((go_at_call 48; exact Calls.quiet_of_same ((H48 _).mono fun e w' h => ⟨h.1, h.2.symm⟩)))
            go_wp2_with fail
            go_roundw
            case rel => exact ⟨k + 1, by omega, by go_num, HST, Lib.hid (hcr.out.drewN _)⟩
            case measure => simp [intOf]; omega
          · have e := hF (hno (fun h => hlt (h.2 hkp)))
            subst e
            clear hno hst hF hcom hp hx hall hw hq hz
            go_wp2_with fail
            go_quiet ((go_at_call 48; exact Calls.quiet_of_same ((H48 _).mono fun e w' h => ⟨h.1, h.2.symm⟩)))
            go_wp2_with fail
            go_ret
            exact ⟨rfl, HCR.out.drewN _⟩
    · obtain rfl : k = com.length := by omega
      have HCOM := hall
      have hall2 := hcr
      clear hall hcr HCR
      obtain ⟨wo, rfl⟩ : ∃ wo : World, wo = wr := ⟨_, rfl⟩
      go_wp2
      clear x0 x1 x2 x3 x4 x5
      go_loopw [51] (fun i wr => ∃ k : Nat, k ≤ edges.length ∧ i = .int .i64 k ∧ Hid (∀ j, j < k → edgeAt edges j = true) ∧ Hid (Chg (fun _ => False) w1 wr)) (fun i _ => edges.length - (intOf i).toNat)
      case atStart => exact ⟨0, by omega, rfl, Lib.hid (fun j hj => by omega), Lib.hid hall2.out⟩
      case round =>
        obtain ⟨k, hk, rfl, hall, hcr⟩ := hrel
        have hCr : Chg (fun _ => False) w wr := chg_trans HC1.out hcr.out
        have HCR := Lib.hid hCr
        obtain ⟨x0, x1, x2, x3, x4, x5⟩ := read6 (chg_heap hcr.out HG.out)
        have hgl := heap_lt (chg_heap hcr.out HG.out)
        clear hCr
        by_cases hk2 : k < edges.length
        · obtain ⟨gb, ob, rfl, hx⟩ := (HB.out.chg hcr.out (fun _ _ => id)).plain (by omega)
          obtain ⟨e1, e2, e3⟩ := hx k hk2
          have hbl := World.block_lt_of_cell? wr _ e1
          simp only at hbl
          have hed := edgeAt_iff edges k
          have hno := edgeAt_no (l := edges) (k := k)
          have hst : edgeAt edges k = true → ∀ j, j < k + 1 → edgeAt edges j = true := fun h j hj => by
            by_cases e : j = k
            · subst e; exact h
            · exact hall.out j (by omega)
          have hF : edgeAt edges k = false → F = false := fun h => HNOT.out (.inr (.inl ⟨k, hk2, h⟩))
          obtain ⟨⟨v, c', u⟩, hp⟩ : ∃ p, p = edges.getD k d3 := ⟨_, rfl⟩
          rw [← hp] at e1 e2 e3 hed hno
          simp only at e1 e2 e3 hed hno
          have H48 := within_any v
          have H48b := within_any c'
          cases hw : w31 v with
          | false =>
            have e := hF (hno (by rw [hw]; simp))
            subst e
            rw [hw] at H48
            clear hno hst hF hed hp hx hall hw
            go_wp2_with (go_at_call 48; refine (H48 _).mono ?_; rintro e w' ⟨rfl, rfl⟩)
            go_ret
            exact ⟨rfl, HCR.out.alloc _⟩
          | true =>
            rw [hw] at H48
            cases hw2 : w31 c' with
            | false =>
              have e := hF (hno (by rw [hw2]; simp))
              subst e
              rw [hw2] at H48b
              clear hno hst hF hed hp hx hall hw hw2
              go_wp2_with (go_at_call 48; first | (refine (H48 _).mono ?_; rintro e w' ⟨rfl, rfl⟩) | (refine (H48b _).mono ?_; rintro e w' ⟨rfl, rfl⟩))
              go_ret
              exact ⟨rfl, HCR.out.alloc _⟩
            | true =>
              rw [hw2] at H48b
              by_cases hu : u = 0
              · subst hu
                have e := hF (hno (by simp))
                subst e
                clear hno hst hF hed hp hx hall hw hw2
                go_wp2_with (go_at_call 48; first | (refine (H48 _).mono ?_; rintro e w' ⟨rfl, rfl⟩) | (refine (H48b _).mono ?_; rintro e w' ⟨rfl, rfl⟩))
                go_ret
                exact ⟨rfl, by first | exact HCR.out.alloc _ | exact (HCR.out.alloc _).alloc _⟩
              have hub : (u == 0) = false := by simpa using hu
              by_cases hz : k = 0
              · have HST := Lib.hid (hst (hed.2 ⟨hw, hw2, hu, fun h => absurd h (by omega)⟩))
                subst hz
                simp only [Nat.zero_mul, Nat.add_zero] at e1 e2 e3
                clear hno hst hF hed hp hx hall hw hw2 hu
                go_wp2_with (go_at_call 48; first | (refine (H48 _).mono ?_; rintro e w' ⟨rfl, rfl⟩) | (refine (H48b _).mono ?_; rintro e w' ⟨rfl, rfl⟩))
                go_quiet (fail)
                go_wp2_with fail
                go_roundw
                case rel => exact ⟨1, by omega, by go_num, HST, Lib.hid ((hcr.out.alloc _).drewN _)⟩
                case measure => simp [intOf]; omega
              obtain ⟨f1, f2, f3⟩ := hx (k - 1) (by omega)
              obtain ⟨⟨pv, pc, pu⟩, hq⟩ : ∃ p, p = edges.getD (k - 1) d3 := ⟨_, rfl⟩
              rw [← hq] at f1 f2 f3 hed hno
              simp only at f1 f2 f3 hed hno
              have hkp : 0 < k := by omega
              by_cases hgt : v < pv
              · have e := hF (hno (fun h => by have := h.2.2.2 hkp; omega))
                subst e
                clear hno hst hF hed hp hx hall hw hw2 hq hu
                go_wp2_with (go_at_call 48; first | (refine (H48 _).mono ?_; rintro e w' ⟨rfl, rfl⟩) | (refine (H48b _).mono ?_; rintro e w' ⟨rfl, rfl⟩))
                go_quiet (fail)
                go_wp2_with fail
                go_ret
                exact ⟨rfl, (HCR.out.alloc _).drewN _⟩
              by_cases heq : pv = v
              · subst heq
                by_cases hlt : pc < c'
                · have HST := Lib.hid (hst (hed.2 ⟨hw, hw2, hu, fun _ => .inr ⟨rfl, hlt⟩⟩))
                  clear hno hst hF hed hp hx hall hw hw2 hq hu
                  go_wp2_with (go_at_call 48; first | (refine (H48 _).mono ?_; rintro e w' ⟨rfl, rfl⟩) | (refine (H48b _).mono ?_; rintro e w' ⟨rfl, rfl⟩))
                  go_quiet (fail)
                  go_wp2_with fail
                  go_roundw
                  case rel => exact ⟨k + 1, by omega, by go_num, HST, Lib.hid ((hcr.out.alloc _).drewN _)⟩
                  case measure => simp [intOf]; omega
                · have e := hF (hno (fun h => by have := h.2.2.2 hkp; omega))
                  subst e
                  clear hno hst hF hed hp hx hall hw hw2 hq hu
                  go_wp2_with (go_at_call 48; first | (refine (H48 _).mono ?_; rintro e w' ⟨rfl, rfl⟩) | (refine (H48b _).mono ?_; rintro e w' ⟨rfl, rfl⟩))
                  go_quiet (fail)
                  go_wp2_with fail
                  go_ret
                  exact ⟨rfl, (HCR.out.alloc _).drewN _⟩
              · have hlt : pv < v := by omega
                have HST := Lib.hid (hst (hed.2 ⟨hw, hw2, hu, fun _ => .inl hlt⟩))
                have heb : (pv == v) = false := by simpa using heq
                clear hno hst hF hed hp hx hall hw hw2 hq hu heq
                go_wp2_with (go_at_call 48; first | (refine (H48 _).mono ?_; rintro e w' ⟨rfl, rfl⟩) | (refine (H48b _).mono ?_; rintro e w' ⟨rfl, rfl⟩))
                obtain ⟨wx, hwx⟩ : ∃ wx, wx = wr.alloc (.cells #[.int .i64 v, .int .i64 c', .int .u64 u] 74) := ⟨_, rfl⟩
                have hCx : Chg (fun _ => False) wr wx := by rw [hwx]; exact (Chg.refl _ _).alloc _
                have hEx : wx.heap[wr.heap.size]? = some (.cells #[.int .i64 v, .int .i64 c', .int .u64 u] 74) := by rw [hwx]; exact heap_alloc_at _ _
                have X1 := chg_cell hCx x1 id
                have F1 := chg_cell hCx f1 id
                have F2 := chg_cell hCx f2 id
                have E0 := cell_of hEx 0 (v := .int .i64 v) rfl
                have E1 := cell_of hEx 1 (v := .int .i64 c') rfl
                have HCX := Lib.hid hCx
                rw [← hwx]
                clear hwx hCx hEx
                have hw1 : IntKind.i64.wrap ((k : Int) - 1) = (k : Int) - 1 := i64wrap_id (by omega)
                have hw2 : (0 : Int) ≤ (k : Int) - 1 := by omega
                have hw3 : ((k : Int) - 1).toNat = k - 1 := by omega
                have hw4 : (k : Int) - 1 < (edges.length : Int) := by omega
                have hw5 : (1 : Int) ≤ (k : Int) := by omega
                have hgd : decide (v < pv) = false := decide_eq_false (by omega)
                refine wp_region_same (fun W => Chg (fun _ => False) wx W) (by kernel_rfl) (by kernel_rfl) ((Chg.refl _ _).drew) ?_
                repeat (first | (refine wpDet_skip (by rfl) ?_; simp only [Act.put, List.setIfInBounds_toArray, List.set_cons_zero, List.set_cons_succ]) | (apply wpDet_step (by rfl); (focus (intro W hW; have q1 := chg_cell hW X1 id; have q2 := chg_cell hW F1 id; have q3 := chg_cell hW F2 id; have q4 := chg_cell hW E0 id; have q5 := chg_cell hW E1 id; go_simp; (with_reducible exact HasV.val hW))); simp only [Act.put, List.setIfInBounds_toArray, List.set_cons_zero, List.set_cons_succ]))
                refine wpDet_nil ?_
                intro W hW
                have HW2 := Lib.hid hW
                clear hw1 hw2 hw3 hw4 hw5 hgd X1 F1 F2 E0 E1 hW
                go_wp2_with fail
                go_roundw
                case rel => exact ⟨k + 1, by omega, by go_num, HST, Lib.hid (chg_trans hcr.out (chg_trans HCX.out HW2.out))⟩
                case measure => simp [intOf]; omega
        · obtain rfl : k = edges.length := by omega
          have e := HYES.out ⟨by omega, by omega, HCOM.out, hall.out⟩
          subst e
          clear hall
          go_wp2
          go_ret
          exact ⟨rfl, HCR.out⟩
end Go.Proofs.Ytcdbchdlenkdgaa
