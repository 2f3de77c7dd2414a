-- PRINTED BY print.sh 35421559b90ae4d0a3588c463048766b98c2df88dd9212a6774a882060cdf62d: not written by this session
import Derived.Test.YtjloknjgipcefaaPBagsBoundsx0
import Derived.Test.YtjloknjgipcefaaPBagsBoundsx1
namespace Go.Proofs.Ytjloknjgipcefaa.PBagsBounds
open Go.RowKit Go.Proofs.YtjloknjgipcefaaW.PrintWords Go.Proofs.YtjloknjgipcefaaW.PrintLast Go.Proofs.YtjloknjgipcefaaW.PrintMore
attribute [local go_sem] max2_int min2_int max_two min_two max_three min_three max_four min_four   -- for this text's walks alone
set_option linter.unusedVariables false
set_option linter.unusedSimpArgs false

/-! ### psephoslaw08_BagsBounds: function 4 -/
mutual
def psephoslaw08_BagsBounds.j0 : Nat → List Int → Int → Int → Bool → Option (Bool)
  | 0, _, _, _, _ => none
  | k + 1, x0, x1, x2, x26 => if x26 = true then ((psephoslaw08_awake.f k).bind fun t124 => (some t124)) else ((bags_Bag.f k x0 x1).bind fun bt125 => ((bags_Bag.f k x0 (mx x1 x2)).bind fun bt127 => (if bt125.2 = 0 then (psephoslaw08_BagsBounds.j1 k x0 x1 bt125.1 (decide (bt127.1 < bt125.1))) else (psephoslaw08_BagsBounds.j1 k x0 x1 bt125.1 true))))
def psephoslaw08_BagsBounds.j1 : Nat → List Int → Int → Int → Bool → Option (Bool)
  | 0, _, _, _, _ => none
  | k + 1, x0, x1, x7, x48 => if x48 = true then (some false) else (psephoslaw08_BagsBounds.l0 k x0 x1 x7 (wrap64 ((x0.length : Int) + 1)) 0)
def psephoslaw08_BagsBounds.l0 : Nat → List Int → Int → Int → Int → Int → Option (Bool)
  | 0, _, _, _, _, _ => none
  | k + 1, x0, x1, x7, x51, x52 => if x52 < x51 then ((bags_Bounds.f k x0 x52).bind fun bt129 => (if bt129.2.2 = 0 then (if bt129.1 ≤ x1 then (if ((decide (x1 ≤ bt129.2.1)) != (x52 == x7)) = true then (some false) else (psephoslaw08_BagsBounds.l0 k x0 x1 x7 x51 (wrap64 (x52 + 1)))) else (if (false != (x52 == x7)) = true then (some false) else (psephoslaw08_BagsBounds.l0 k x0 x1 x7 x51 (wrap64 (x52 + 1))))) else (if (false != (x52 == x7)) = true then (some false) else (psephoslaw08_BagsBounds.l0 k x0 x1 x7 x51 (wrap64 (x52 + 1)))))) else (some true)
end
def psephoslaw08_BagsBounds.f (k : Nat) (l0 : List Int) (a1 : Int) (a2 : Int) : Option (Bool) := (psephoslaw08_awake.f k).bind fun t122 => (if t122 = true then (if (l0.length : Int) > 100 then (psephoslaw08_BagsBounds.j0 k l0 a1 a2 true) else ((bags_Formed.f k l0).bind fun t123 => (psephoslaw08_BagsBounds.j0 k l0 a1 a2 (!t123)))) else (psephoslaw08_BagsBounds.j0 k l0 a1 a2 true))
theorem psephoslaw08_BagsBounds.mono_l : ∀ k, (∀ y0 y1 y2 y3, LeO (psephoslaw08_BagsBounds.j0 k y0 y1 y2 y3) (psephoslaw08_BagsBounds.j0 (k + 1) y0 y1 y2 y3)) ∧ (∀ y0 y1 y2 y3, LeO (psephoslaw08_BagsBounds.j1 k y0 y1 y2 y3) (psephoslaw08_BagsBounds.j1 (k + 1) y0 y1 y2 y3)) ∧ (∀ y0 y1 y2 y3 y4, LeO (psephoslaw08_BagsBounds.l0 k y0 y1 y2 y3 y4) (psephoslaw08_BagsBounds.l0 (k + 1) y0 y1 y2 y3 y4))
  | 0 => ⟨fun _ _ _ _ r h => by simp [psephoslaw08_BagsBounds.j0] at h, fun _ _ _ _ r h => by simp [psephoslaw08_BagsBounds.j1] at h, fun _ _ _ _ _ r h => by simp [psephoslaw08_BagsBounds.l0] at h⟩
  | k + 1 => by
    obtain ⟨ih0, ih1, ih2⟩ := psephoslaw08_BagsBounds.mono_l k
    refine ⟨?_, ?_, ?_⟩
    · intro y0 y1 y2 y3
      unfold psephoslaw08_BagsBounds.j0
      repeat' first
      | (with_reducible exact ih0 _ _ _ _)
      | (with_reducible exact ih1 _ _ _ _)
      | (with_reducible exact ih2 _ _ _ _ _)
      | (with_reducible exact bags_Bag.mono _ _ _)
      | (with_reducible exact bags_Bounds.mono _ _ _)
      | (with_reducible exact bags_Formed.mono _ _)
      | (with_reducible exact psephoslaw08_awake.mono _)
      | (with_reducible exact LeO.refl _)
      | (with_reducible exact LeO.none _)
      | (with_reducible refine LeO.ite ?_ ?_)
      | (with_reducible refine LeO.bind ?_ (fun _ => ?_))
      | exact ih0 _ _ _ _
      | exact ih1 _ _ _ _
      | exact ih2 _ _ _ _ _
      | exact bags_Bag.mono _ _ _
      | exact bags_Bounds.mono _ _ _
      | exact bags_Formed.mono _ _
      | exact psephoslaw08_awake.mono _
      | exact LeO.none _
      | refine LeO.ite ?_ ?_
      | refine LeO.bind ?_ (fun _ => ?_)
    · intro y0 y1 y2 y3
      unfold psephoslaw08_BagsBounds.j1
      repeat' first
      | (with_reducible exact ih0 _ _ _ _)
      | (with_reducible exact ih1 _ _ _ _)
      | (with_reducible exact ih2 _ _ _ _ _)
      | (with_reducible exact bags_Bag.mono _ _ _)
      | (with_reducible exact bags_Bounds.mono _ _ _)
      | (with_reducible exact bags_Formed.mono _ _)
      | (with_reducible exact psephoslaw08_awake.mono _)
      | (with_reducible exact LeO.refl _)
      | (with_reducible exact LeO.none _)
      | (with_reducible refine LeO.ite ?_ ?_)
      | (with_reducible refine LeO.bind ?_ (fun _ => ?_))
      | exact ih0 _ _ _ _
      | exact ih1 _ _ _ _
      | exact ih2 _ _ _ _ _
      | exact bags_Bag.mono _ _ _
      | exact bags_Bounds.mono _ _ _
      | exact bags_Formed.mono _ _
      | exact psephoslaw08_awake.mono _
      | exact LeO.none _
      | refine LeO.ite ?_ ?_
      | refine LeO.bind ?_ (fun _ => ?_)
    · intro y0 y1 y2 y3 y4
      unfold psephoslaw08_BagsBounds.l0
      repeat' first
      | (with_reducible exact ih0 _ _ _ _)
      | (with_reducible exact ih1 _ _ _ _)
      | (with_reducible exact ih2 _ _ _ _ _)
      | (with_reducible exact bags_Bag.mono _ _ _)
      | (with_reducible exact bags_Bounds.mono _ _ _)
      | (with_reducible exact bags_Formed.mono _ _)
      | (with_reducible exact psephoslaw08_awake.mono _)
      | (with_reducible exact LeO.refl _)
      | (with_reducible exact LeO.none _)
      | (with_reducible refine LeO.ite ?_ ?_)
      | (with_reducible refine LeO.bind ?_ (fun _ => ?_))
      | exact ih0 _ _ _ _
      | exact ih1 _ _ _ _
      | exact ih2 _ _ _ _ _
      | exact bags_Bag.mono _ _ _
      | exact bags_Bounds.mono _ _ _
      | exact bags_Formed.mono _ _
      | exact psephoslaw08_awake.mono _
      | exact LeO.none _
      | refine LeO.ite ?_ ?_
      | refine LeO.bind ?_ (fun _ => ?_)
theorem psephoslaw08_BagsBounds.mono : ∀ a0 a1 a2 k, LeO (psephoslaw08_BagsBounds.f k a0 a1 a2) (psephoslaw08_BagsBounds.f (k + 1) a0 a1 a2) := by
  intro a0 a1 a2 k
  obtain ⟨ih0, ih1, ih2⟩ := psephoslaw08_BagsBounds.mono_l k
  unfold psephoslaw08_BagsBounds.f
  repeat' first
      | (with_reducible exact ih0 _ _ _ _)
      | (with_reducible exact ih1 _ _ _ _)
      | (with_reducible exact ih2 _ _ _ _ _)
      | (with_reducible exact bags_Bag.mono _ _ _)
      | (with_reducible exact bags_Bounds.mono _ _ _)
      | (with_reducible exact bags_Formed.mono _ _)
      | (with_reducible exact psephoslaw08_awake.mono _)
      | (with_reducible exact LeO.refl _)
      | (with_reducible exact LeO.none _)
      | (with_reducible refine LeO.ite ?_ ?_)
      | (with_reducible refine LeO.bind ?_ (fun _ => ?_))
      | exact ih0 _ _ _ _
      | exact ih1 _ _ _ _
      | exact ih2 _ _ _ _ _
      | exact bags_Bag.mono _ _ _
      | exact bags_Bounds.mono _ _ _
      | exact bags_Formed.mono _ _
      | exact psephoslaw08_awake.mono _
      | exact LeO.none _
      | refine LeO.ite ?_ ?_
      | refine LeO.bind ?_ (fun _ => ?_)
set_option maxHeartbeats 8000000 in
set_option maxRecDepth 100000 in
theorem psephoslaw08_BagsBounds.calls (k : Nat) (A0 : Option Addr) (c0 : Nat) (l0 : List Int) (a1 : Int) (a2 : Int) (r : Bool) (w : World) (hr0 : Kd.C (Kd.int .u64) w A0 l0.length l0) (hc0 : l0.length ≤ c0) (h : psephoslaw08_BagsBounds.f k l0 a1 a2 = some r) :
    Calls Try.prog 4 #[.slice A0 l0.length c0, .int .u64 a1, .int .u64 a2] w fun e w' => e = .returned (.bool r) ∧ Below w.heap.size w w' := by
  have HR0 := Aside0.mk hr0
  have HC0 := Aside0.mk hc0
  clear hr0 hc0
  have HB := Aside0.mk (Below.refl w.heap.size w)
  have H : ((psephoslaw08_awake.f k).bind fun t122 => (if t122 = true then (if (l0.length : Int) > 100 then (psephoslaw08_BagsBounds.j0 k l0 a1 a2 true) else ((bags_Formed.f k l0).bind fun t123 => (psephoslaw08_BagsBounds.j0 k l0 a1 a2 (!t123)))) else (psephoslaw08_BagsBounds.j0 k l0 a1 a2 true))) = some r := h
  clear h
  have HC4 := Aside0.mk H
  clear H
  go_enter Try.func4, Try.ntmps4
  go_upto_region 1 with (fail)
  go_cut [26] (fun v26 wc => ∃ (kq : Nat) (x26_3 : Bool), v26 = .bool x26_3 ∧ Aside0 (psephoslaw08_BagsBounds.j0 kq l0 a1 a2 x26_3 = some r) ∧ Aside0 (kq ≤ k) ∧ Aside0 (Below w.heap.size w wc))
  case first =>
    have H := HC4.out
    clear HC4
    replace H := Option.bind_eq_some_iff.mp H
    obtain ⟨t122, A50, H⟩ := H
    replace H : (if t122 = true then (if (l0.length : Int) > 100 then (psephoslaw08_BagsBounds.j0 k l0 a1 a2 true) else ((bags_Formed.f k l0).bind fun t123 => (psephoslaw08_BagsBounds.j0 k l0 a1 a2 (!t123)))) else (psephoslaw08_BagsBounds.j0 k l0 a1 a2 true)) = some r := H
    have A5 := Aside0.mk A50
    clear A50
    by_cases c6 : t122 = true
    · subst c6
      have H1 : (if (l0.length : Int) > 100 then (psephoslaw08_BagsBounds.j0 k l0 a1 a2 true) else ((bags_Formed.f k l0).bind fun t123 => (psephoslaw08_BagsBounds.j0 k l0 a1 a2 (!t123)))) = some r := by rw [if_pos rfl] at H; exact H
      clear H
      have H := H1
      clear H1
      by_cases c7 : (l0.length : Int) > 100
      · rw [if_pos c7] at H
        have c7b0 : decide (100 < (l0.length : Int)) = true := decide_eq_true c7
        have c7b1 : decide (100 < l0.length) = true := decide_eq_true (by omega)
        clear c7
        (first | rw [c7b0] | (simp only [i64_w, i32_w]; rw [c7b0]) | skip)
        have H' := Aside0.mk H
        clear H
        go_wp2_with (first | ((with_reducible refine gate_callee (f := 5) rfl ?_); refine goesL_ (some 15) rfl rfl Try.func5 (by kernel_rfl) rfl #[] rfl (by (try simp only [List.map_toArray, List.map_cons, List.map_nil]); first | done | rfl | (simp only [List.length_drop, List.length_take]; rfl)) ?_; (with_reducible refine (psephoslaw08_awake.calls k  true _ A5.out).mono ?_); rintro e w8 ⟨rfl, hb⟩; refine ⟨_, rfl, ?_⟩; have n0_ := Aside0.mk (below_step (by repeat (first | (with_reducible first | exact HB.out | apply below_alloc | apply pw_below_drewN | apply below_drew1) | exact HB.out)) hb); clear HB; have HB := n0_; clear n0_; (try clear hb); (try clear hb2); (try clear hk); (try clear hi)))
        go_meet
        case rel => exact ⟨_, (true), (by first | rfl | (simp; done) | (simp [*]; done)), H', ⟨by first | omega | exact Nat.le_refl _⟩, ⟨by repeat (first | (with_reducible first | exact HB.out | apply below_alloc | apply pw_below_drewN | apply below_drew1) | exact HB.out)⟩⟩
      · rw [if_neg c7] at H
        have c7b0 : decide (100 < (l0.length : Int)) = false := decide_eq_false c7
        have c7b1 : decide (100 < l0.length) = false := decide_eq_false (by omega)
        clear c7
        (first | rw [c7b0] | (simp only [i64_w, i32_w]; rw [c7b0]) | skip)
        replace H := Option.bind_eq_some_iff.mp H
        obtain ⟨t123, A90, H⟩ := H
        replace H : (psephoslaw08_BagsBounds.j0 k l0 a1 a2 (!t123)) = some r := H
        have A9 := Aside0.mk A90
        clear A90
        have H' := Aside0.mk H
        clear H
        go_wp2_with (first | ((with_reducible refine gate_callee (f := 5) rfl ?_); refine goesL_ (some 15) rfl rfl Try.func5 (by kernel_rfl) rfl #[] rfl (by (try simp only [List.map_toArray, List.map_cons, List.map_nil]); first | done | rfl | (simp only [List.length_drop, List.length_take]; rfl)) ?_; (with_reducible refine (psephoslaw08_awake.calls k  true _ A5.out).mono ?_); rintro e w10 ⟨rfl, hb⟩; refine ⟨_, rfl, ?_⟩; have n0_ := Aside0.mk (below_step (by repeat (first | (with_reducible first | exact HB.out | apply below_alloc | apply pw_below_drewN | apply below_drew1) | exact HB.out)) hb); clear HB; have HB := n0_; clear n0_; (try clear hb); (try clear hb2); (try clear hk); (try clear hi)) | (go_at_call 10; (with_reducible refine (bags_Formed.calls k _ _ l0 t123 _ ?side1 ?side2 A9.out).mono ?_); (case side1 => repeat (first | exact (Kd.C_below HR0.out HB.out) | (with_reducible refine Kd.C_alloc ?_ _) | (with_reducible refine Kd.C_drewN ?_ _) | (with_reducible refine Kd.C_drew ?_))); (case side2 => exact HC0.out); rintro e w' ⟨rfl, ⟨nd, rfl⟩⟩))
        go_meet
        case rel => exact ⟨_, (!t123), (by first | rfl | (simp; done) | (simp [*]; done)), H', ⟨by first | omega | exact Nat.le_refl _⟩, ⟨by repeat (first | (with_reducible first | exact HB.out | apply below_alloc | apply pw_below_drewN | apply below_drew1) | exact HB.out)⟩⟩
    · replace c6 := Bool.eq_false_iff.mpr c6
      subst c6
      have H1 : (psephoslaw08_BagsBounds.j0 k l0 a1 a2 true) = some r := by rw [if_neg (show ¬ (false = true) by decide)] at H; exact H
      clear H
      have H := H1
      clear H1
      have H' := Aside0.mk H
      clear H
      go_wp2_with (first | ((with_reducible refine gate_callee (f := 5) rfl ?_); refine goesL_ (some 15) rfl rfl Try.func5 (by kernel_rfl) rfl #[] rfl (by (try simp only [List.map_toArray, List.map_cons, List.map_nil]); first | done | rfl | (simp only [List.length_drop, List.length_take]; rfl)) ?_; (with_reducible refine (psephoslaw08_awake.calls k  false _ A5.out).mono ?_); rintro e w11 ⟨rfl, hb⟩; refine ⟨_, rfl, ?_⟩; have n0_ := Aside0.mk (below_step (by repeat (first | (with_reducible first | exact HB.out | apply below_alloc | apply pw_below_drewN | apply below_drew1) | exact HB.out)) hb); clear HB; have HB := n0_; clear n0_; (try clear hb); (try clear hb2); (try clear hk); (try clear hi)))
      go_meet
      case rel => exact ⟨_, (true), (by first | rfl | (simp; done) | (simp [*]; done)), H', ⟨by first | omega | exact Nat.le_refl _⟩, ⟨by repeat (first | (with_reducible first | exact HB.out | apply below_alloc | apply pw_below_drewN | apply below_drew1) | exact HB.out)⟩⟩
  case rest =>
    clear HC4
    try clear p2
    try clear c4
    try clear c5
    try clear c6
    try clear c7
    try clear c7b0
    try clear c7b1
    obtain ⟨kq, x26_3, rfl, HA, HJ3, HB⟩ := hcut
    cases kq with
    | zero => exact absurd HA.out (by simp [psephoslaw08_BagsBounds.j0])
    | succ kj3 =>
      have H := HA.out
      clear HA
      simp only [psephoslaw08_BagsBounds.j0] at H
      by_cases c12 : x26_3 = true
      · subst c12
        have H1 : ((psephoslaw08_awake.f kj3).bind fun t124 => (some t124)) = some r := by rw [if_pos rfl] at H; exact H
        clear H
        have H := H1
        clear H1
        replace H := Option.bind_eq_some_iff.mp H
        obtain ⟨t124, A130, H⟩ := H
        replace H : (some t124) = some r := H
        have A13 := Aside0.mk A130
        clear A130
        obtain rfl := Option.some.inj H
        go_wp2_with (first | ((with_reducible refine gate_callee (f := 5) rfl ?_); refine goesL_ (some 27) rfl rfl Try.func5 (by kernel_rfl) rfl #[] rfl (by (try simp only [List.map_toArray, List.map_cons, List.map_nil]); first | done | rfl | (simp only [List.length_drop, List.length_take]; rfl)) ?_; (with_reducible refine (psephoslaw08_awake.calls kj3  t124 _ A13.out).mono ?_); rintro e w14 ⟨rfl, hb⟩; refine ⟨_, rfl, ?_⟩; have n0_ := Aside0.mk (below_step (by repeat (first | (with_reducible first | exact HB.out | apply below_alloc | apply pw_below_drewN | apply below_drew1) | exact HB.out)) hb); clear HB; have HB := n0_; clear n0_; (try clear hb); (try clear hb2); (try clear hk); (try clear hi)))
        go_ret
        exact ⟨by first | rfl | (simp [errW_none, errW_some] <;> rfl) | (simp [*, errW_none, errW_some] <;> rfl), by repeat (first | (with_reducible first | exact HB.out | apply below_alloc | apply pw_below_drewN | apply below_drew1) | exact HB.out)⟩
      · replace c12 := Bool.eq_false_iff.mpr c12
        subst c12
        have H1 : ((bags_Bag.f kj3 l0 a1).bind fun bt125 => ((bags_Bag.f kj3 l0 (mx a1 a2)).bind fun bt127 => (if bt125.2 = 0 then (psephoslaw08_BagsBounds.j1 kj3 l0 a1 bt125.1 (decide (bt127.1 < bt125.1))) else (psephoslaw08_BagsBounds.j1 kj3 l0 a1 bt125.1 true)))) = some r := by rw [if_neg (show ¬ (false = true) by decide)] at H; exact H
        clear H
        have H := H1
        clear H1
        replace H := Option.bind_eq_some_iff.mp H
        obtain ⟨⟨t125, t126⟩, A150, H⟩ := H
        replace H : ((bags_Bag.f kj3 l0 (mx a1 a2)).bind fun bt127 => (if t126 = 0 then (psephoslaw08_BagsBounds.j1 kj3 l0 a1 t125 (decide (bt127.1 < t125))) else (psephoslaw08_BagsBounds.j1 kj3 l0 a1 t125 true))) = some r := H
        have A15 := Aside0.mk A150
        clear A150
        obtain ⟨ji16, hji16⟩ : ∃ j_ : Int, (mx a1 a2) = j_ := ⟨_, rfl⟩
        replace H : ((bags_Bag.f kj3 l0 (ji16)).bind fun bt127 => (if t126 = 0 then (psephoslaw08_BagsBounds.j1 kj3 l0 a1 t125 (decide (bt127.1 < t125))) else (psephoslaw08_BagsBounds.j1 kj3 l0 a1 t125 true))) = some r := by first | (rw [hji16] at H; exact H) | (simp only [hji16] at H ⊢; exact H)
        (try rw [hji16] at A15)
        have hji16_ : (if a1 < a2 then a2 else a1) = ji16 := hji16
        replace H := Option.bind_eq_some_iff.mp H
        obtain ⟨⟨t127, t128⟩, A170, H⟩ := H
        replace H : (if t126 = 0 then (psephoslaw08_BagsBounds.j1 kj3 l0 a1 t125 (decide (t127 < t125))) else (psephoslaw08_BagsBounds.j1 kj3 l0 a1 t125 true)) = some r := H
        have A17 := Aside0.mk A170
        clear A170
        have HC18 := Aside0.mk H
        clear H
        go_upto_region 5 with (first | ((with_reducible refine gate_callee (f := 6) rfl ?_); refine goesL_ (some 31) rfl rfl Try.func6 (by kernel_rfl) rfl #[.slice A0 l0.length c0, .int .u64 a1] rfl (by (try simp only [List.map_toArray, List.map_cons, List.map_nil]); first | done | rfl | (simp only [List.length_drop, List.length_take]; rfl)) ?_; (with_reducible refine (bags_Bag.calls kj3 _ _ l0 a1 t125 t126 _ ?side1 ?side2 A15.out).mono ?_); (case side1 => repeat (first | exact (Kd.C_below HR0.out HB.out) | (with_reducible refine Kd.C_alloc ?_ _) | (with_reducible refine Kd.C_drewN ?_ _) | (with_reducible refine Kd.C_drew ?_))); (case side2 => exact HC0.out); rintro e w' ⟨rfl, ⟨nd, rfl⟩⟩; refine ⟨_, rfl, ?_⟩) | ((with_reducible refine gate_callee (f := 6) rfl ?_); refine goesL_ (some 39) rfl rfl Try.func6 (by kernel_rfl) rfl #[.slice A0 l0.length c0, .int .u64 ji16] rfl (by (try simp only [List.map_toArray, List.map_cons, List.map_nil]); first | done | (simp only [hji16]; rfl) | rfl | (simp only [List.length_drop, List.length_take]; rfl)) ?_; (with_reducible refine (bags_Bag.calls kj3 _ _ l0 ji16 t127 t128 _ ?side1 ?side2 A17.out).mono ?_); (case side1 => repeat (first | exact (Kd.C_below HR0.out (by repeat (first | (with_reducible first | exact HB.out | apply below_alloc | apply pw_below_drewN | apply below_drew1) | exact HB.out))) | (with_reducible refine Kd.C_alloc ?_ _) | (with_reducible refine Kd.C_drewN ?_ _) | (with_reducible refine Kd.C_drew ?_))); (case side2 => exact HC0.out); rintro e w' ⟨rfl, ⟨nd, rfl⟩⟩; refine ⟨_, rfl, ?_⟩))
        (try simp only [Act.put, List.setIfInBounds_toArray, List.set_cons_zero, List.set_cons_succ])
        go_cut [48] (fun v48 wc => ∃ (kq : Nat) (x48_17 : Bool), v48 = .bool x48_17 ∧ Aside0 (psephoslaw08_BagsBounds.j1 kq l0 a1 t125 x48_17 = some r) ∧ Aside0 (kq ≤ kj3) ∧ Aside0 (Below w.heap.size w wc))
        case first =>
          have H := HC18.out
          clear HC18
          by_cases c19 : t126 = 0
          · rw [if_pos c19] at H
            have c19b0 : (t126 == 0) = true := beq_iff_eq.mpr c19
            have c19b1 : (t126 != 0) = false := bne_eq_false_iff_eq.mpr c19
            clear c19
            (first | rw [c19b0] | (simp only [i64_w, i32_w]; rw [c19b0]) | skip)
            have H' := Aside0.mk H
            clear H
            go_wp2
            go_meet
            case rel => exact ⟨_, (decide (t127 < t125)), (by first | rfl | (simp; done) | (simp [*]; done)), H', ⟨by have := HJ3.out; first | omega | exact Nat.le_refl _⟩, ⟨by repeat (first | (with_reducible first | exact HB.out | apply below_alloc | apply pw_below_drewN | apply below_drew1) | exact HB.out)⟩⟩
          · rw [if_neg c19] at H
            have c19b0 : (t126 == 0) = false := beq_eq_false_iff_ne.mpr c19
            have c19b1 : (t126 != 0) = true := bne_iff_ne.mpr c19
            (first | rw [c19b0] | (simp only [i64_w, i32_w]; rw [c19b0]) | skip)
            have H' := Aside0.mk H
            clear H
            go_wp2
            go_meet
            case rel => exact ⟨_, (true), (by first | rfl | (simp; done) | (simp [*]; done)), H', ⟨by have := HJ3.out; first | omega | exact Nat.le_refl _⟩, ⟨by repeat (first | (with_reducible first | exact HB.out | apply below_alloc | apply pw_below_drewN | apply below_drew1) | exact HB.out)⟩⟩
        case rest =>
          clear HC18
          try clear c1
          try clear p2
          try clear c4
          try clear c5
          try clear c6
          try clear c7
          try clear c7b0
          try clear c7b1
          try clear c12
          try clear c19
          try clear c19b0
          try clear c19b1
          try clear p2
          obtain ⟨kq, x48_17, rfl, HA, HJ17, HB⟩ := hcut
          cases kq with
          | zero => exact absurd HA.out (by simp [psephoslaw08_BagsBounds.j1])
          | succ kj17 =>
            have H := HA.out
            clear HA
            simp only [psephoslaw08_BagsBounds.j1] at H
            by_cases c20 : x48_17 = true
            · subst c20
              have H1 : (some false) = some r := by rw [if_pos rfl] at H; exact H
              clear H
              have H := H1
              clear H1
              obtain rfl := Option.some.inj H
              go_wp2
              go_ret
              exact ⟨by first | rfl | (simp [errW_none, errW_some] <;> rfl) | (simp only [← hji16]; first | rfl | (simp [errW_none, errW_some] <;> rfl)) | (simp [*, errW_none, errW_some] <;> rfl), by repeat (first | (with_reducible first | exact HB.out | apply below_alloc | apply pw_below_drewN | apply below_drew1) | exact HB.out)⟩
            · replace c20 := Bool.eq_false_iff.mpr c20
              subst c20
              have H1 : (psephoslaw08_BagsBounds.l0 kj17 l0 a1 t125 (wrap64 ((l0.length : Int) + 1)) 0) = some r := by rw [if_neg (show ¬ (false = true) by decide)] at H; exact H
              clear H
              have H := H1
              clear H1
              have H' := Aside0.mk H
              clear H
              go_wp2
              go_loopg [52] kj17 (fun kq v52 w' => ∃ (x52_3 : Int), v52 = .int .i64 x52_3 ∧ Aside0 (psephoslaw08_BagsBounds.l0 kq l0 a1 t125 (wrap64 ((l0.length : Int) + 1)) x52_3 = some r) ∧ Aside0 (kq ≤ kj17) ∧ Aside0 (Below w.heap.size w w'))
              case atStart => exact ⟨(0), (by first | rfl | (simp; done) | (simp [*]; done)), H', ⟨Nat.le_refl _⟩, ⟨by repeat (first | (with_reducible first | exact HB.out | apply below_alloc | apply pw_below_drewN | apply below_drew1) | exact HB.out)⟩⟩
              case round =>
                clear H'
                try clear c1
                try clear c2
                try clear p2
                try clear c4
                try clear c5
                try clear c6
                try clear p6
                try clear c7
                try clear c7b0
                try clear c7b1
                try clear c12
                try clear c19
                try clear c19b0
                try clear c19b1
                try clear c20
                try clear p2
                obtain ⟨x52_3, rfl, HA, HK3, HB⟩ := hrel
                cases gk with
                | zero => exact absurd HA.out (by simp [psephoslaw08_BagsBounds.l0])
                | succ k3 =>
                  have H := HA.out
                  clear HA
                  simp only [psephoslaw08_BagsBounds.l0] at H
                  by_cases c21 : x52_3 < (wrap64 ((l0.length : Int) + 1))
                  · rw [if_pos c21] at H
                    have c21b0 : decide (x52_3 < (wrap64 ((l0.length : Int) + 1))) = true := decide_eq_true c21
                    clear c21
                    replace H := Option.bind_eq_some_iff.mp H
                    obtain ⟨⟨t129, t130, t131⟩, A220, H⟩ := H
                    replace H : (if t131 = 0 then (if t129 ≤ a1 then (if ((decide (a1 ≤ t130)) != (x52_3 == t125)) = true then (some false) else (psephoslaw08_BagsBounds.l0 k3 l0 a1 t125 (wrap64 ((l0.length : Int) + 1)) (wrap64 (x52_3 + 1)))) else (if (false != (x52_3 == t125)) = true then (some false) else (psephoslaw08_BagsBounds.l0 k3 l0 a1 t125 (wrap64 ((l0.length : Int) + 1)) (wrap64 (x52_3 + 1))))) else (if (false != (x52_3 == t125)) = true then (some false) else (psephoslaw08_BagsBounds.l0 k3 l0 a1 t125 (wrap64 ((l0.length : Int) + 1)) (wrap64 (x52_3 + 1))))) = some r := H
                    have A22 := Aside0.mk A220
                    clear A220
                    by_cases c23 : t131 = 0
                    · rw [if_pos c23] at H
                      have c23b0 : (t131 == 0) = true := beq_iff_eq.mpr c23
                      have c23b1 : (t131 != 0) = false := bne_eq_false_iff_eq.mpr c23
                      clear c23
                      by_cases c24 : t129 ≤ a1
                      · rw [if_pos c24] at H
                        have c24b0 : decide (t129 ≤ a1) = true := decide_eq_true c24
                        clear c24
                        by_cases c25 : ((decide (a1 ≤ t130)) != (x52_3 == t125)) = true
                        · rw [if_pos c25] at H
                          have c25b0 : ((decide (a1 ≤ t130)) != (x52_3 == t125)) = true := c25
                          (try (have c25b1 : decide ((decide (a1 ≤ t130)) = (x52_3 == t125)) = false := by simpa using c25))
                          (try (have c25b2 : ((decide (a1 ≤ t130)) == (x52_3 == t125)) = false := by simpa using c25))
                          (try (have c25b3 : ¬ ((decide (a1 ≤ t130)) = (x52_3 == t125)) := by simpa using c25))
                          clear c25
                          obtain rfl := Option.some.inj H
                          go_wp2_with (first | ((with_reducible refine gate_callee (f := 8) rfl ?_); refine goesL_ (some 58) rfl rfl Try.func8 (by kernel_rfl) rfl #[.slice A0 l0.length c0, .int .i64 x52_3] rfl (by (try simp only [List.map_toArray, List.map_cons, List.map_nil]); first | done | rfl | (simp only [List.length_drop, List.length_take]; rfl)) ?_; (with_reducible refine (bags_Bounds.calls k3 _ _ l0 x52_3 t129 t130 t131 _ ?side1 ?side2 A22.out).mono ?_); (case side1 => repeat (first | exact (Kd.C_below HR0.out HB.out) | (with_reducible refine Kd.C_alloc ?_ _) | (with_reducible refine Kd.C_drewN ?_ _) | (with_reducible refine Kd.C_drew ?_))); (case side2 => exact HC0.out); rintro e w' ⟨rfl, ⟨nd, rfl⟩⟩; refine ⟨_, rfl, ?_⟩))
                          go_ret
                          exact ⟨by first | rfl | (simp [errW_none, errW_some] <;> rfl) | (simp only [← hji16]; first | rfl | (simp [errW_none, errW_some] <;> rfl)) | (simp [*, errW_none, errW_some] <;> rfl), by repeat (first | (with_reducible first | exact HB.out | apply below_alloc | apply pw_below_drewN | apply below_drew1) | exact HB.out)⟩
                        · rw [if_neg c25] at H
                          have c25b0 : ((decide (a1 ≤ t130)) != (x52_3 == t125)) = false := by simpa using c25
                          (try (have c25b1 : decide ((decide (a1 ≤ t130)) = (x52_3 == t125)) = true := by simpa using c25))
                          (try (have c25b2 : ((decide (a1 ≤ t130)) == (x52_3 == t125)) = true := by simpa using c25))
                          clear c25
                          have H' := Aside0.mk H
                          clear H
                          go_wp2_with (first | ((with_reducible refine gate_callee (f := 8) rfl ?_); refine goesL_ (some 58) rfl rfl Try.func8 (by kernel_rfl) rfl #[.slice A0 l0.length c0, .int .i64 x52_3] rfl (by (try simp only [List.map_toArray, List.map_cons, List.map_nil]); first | done | rfl | (simp only [List.length_drop, List.length_take]; rfl)) ?_; (with_reducible refine (bags_Bounds.calls k3 _ _ l0 x52_3 t129 t130 t131 _ ?side1 ?side2 A22.out).mono ?_); (case side1 => repeat (first | exact (Kd.C_below HR0.out HB.out) | (with_reducible refine Kd.C_alloc ?_ _) | (with_reducible refine Kd.C_drewN ?_ _) | (with_reducible refine Kd.C_drew ?_))); (case side2 => exact HC0.out); rintro e w' ⟨rfl, ⟨nd, rfl⟩⟩; refine ⟨_, rfl, ?_⟩))
                          go_roundg k3
                          case measure => have := HJ3.out; have := HJ17.out; have := HK3.out; omega
                          case rel => exact ⟨(wrap64 (x52_3 + 1)), (by first | rfl | (simp; done) | (simp [*]; done)), H', ⟨by have := HJ3.out; have := HJ17.out; have := HK3.out; omega⟩, ⟨by repeat (first | (with_reducible first | exact HB.out | apply below_alloc | apply pw_below_drewN | apply below_drew1) | exact HB.out)⟩⟩
                      · rw [if_neg c24] at H
                        have c24b0 : decide (t129 ≤ a1) = false := decide_eq_false c24
                        clear c24
                        by_cases c26 : (false != (x52_3 == t125)) = true
                        · rw [if_pos c26] at H
                          have c26b0 : (false != (x52_3 == t125)) = true := c26
                          (try (have c26b1 : decide (false = (x52_3 == t125)) = false := by simpa using c26))
                          (try (have c26b2 : (false == (x52_3 == t125)) = false := by simpa using c26))
                          (try (have c26b3 : ¬ (false = (x52_3 == t125)) := by simpa using c26))
                          clear c26
                          obtain rfl := Option.some.inj H
                          go_wp2_with (first | ((with_reducible refine gate_callee (f := 8) rfl ?_); refine goesL_ (some 58) rfl rfl Try.func8 (by kernel_rfl) rfl #[.slice A0 l0.length c0, .int .i64 x52_3] rfl (by (try simp only [List.map_toArray, List.map_cons, List.map_nil]); first | done | rfl | (simp only [List.length_drop, List.length_take]; rfl)) ?_; (with_reducible refine (bags_Bounds.calls k3 _ _ l0 x52_3 t129 t130 t131 _ ?side1 ?side2 A22.out).mono ?_); (case side1 => repeat (first | exact (Kd.C_below HR0.out HB.out) | (with_reducible refine Kd.C_alloc ?_ _) | (with_reducible refine Kd.C_drewN ?_ _) | (with_reducible refine Kd.C_drew ?_))); (case side2 => exact HC0.out); rintro e w' ⟨rfl, ⟨nd, rfl⟩⟩; refine ⟨_, rfl, ?_⟩))
                          go_ret
                          exact ⟨by first | rfl | (simp [errW_none, errW_some] <;> rfl) | (simp only [← hji16]; first | rfl | (simp [errW_none, errW_some] <;> rfl)) | (simp [*, errW_none, errW_some] <;> rfl), by repeat (first | (with_reducible first | exact HB.out | apply below_alloc | apply pw_below_drewN | apply below_drew1) | exact HB.out)⟩
                        · rw [if_neg c26] at H
                          have c26b0 : (false != (x52_3 == t125)) = false := by simpa using c26
                          (try (have c26b1 : decide (false = (x52_3 == t125)) = true := by simpa using c26))
                          (try (have c26b2 : (false == (x52_3 == t125)) = true := by simpa using c26))
                          clear c26
                          have H' := Aside0.mk H
                          clear H
                          go_wp2_with (first | ((with_reducible refine gate_callee (f := 8) rfl ?_); refine goesL_ (some 58) rfl rfl Try.func8 (by kernel_rfl) rfl #[.slice A0 l0.length c0, .int .i64 x52_3] rfl (by (try simp only [List.map_toArray, List.map_cons, List.map_nil]); first | done | rfl | (simp only [List.length_drop, List.length_take]; rfl)) ?_; (with_reducible refine (bags_Bounds.calls k3 _ _ l0 x52_3 t129 t130 t131 _ ?side1 ?side2 A22.out).mono ?_); (case side1 => repeat (first | exact (Kd.C_below HR0.out HB.out) | (with_reducible refine Kd.C_alloc ?_ _) | (with_reducible refine Kd.C_drewN ?_ _) | (with_reducible refine Kd.C_drew ?_))); (case side2 => exact HC0.out); rintro e w' ⟨rfl, ⟨nd, rfl⟩⟩; refine ⟨_, rfl, ?_⟩))
                          go_roundg k3
                          case measure => have := HJ3.out; have := HJ17.out; have := HK3.out; omega
                          case rel => exact ⟨(wrap64 (x52_3 + 1)), (by first | rfl | (simp; done) | (simp [*]; done)), H', ⟨by have := HJ3.out; have := HJ17.out; have := HK3.out; omega⟩, ⟨by repeat (first | (with_reducible first | exact HB.out | apply below_alloc | apply pw_below_drewN | apply below_drew1) | exact HB.out)⟩⟩
                    · rw [if_neg c23] at H
                      have c23b0 : (t131 == 0) = false := beq_eq_false_iff_ne.mpr c23
                      have c23b1 : (t131 != 0) = true := bne_iff_ne.mpr c23
                      by_cases c27 : (false != (x52_3 == t125)) = true
                      · rw [if_pos c27] at H
                        have c27b0 : (false != (x52_3 == t125)) = true := c27
                        (try (have c27b1 : decide (false = (x52_3 == t125)) = false := by simpa using c27))
                        (try (have c27b2 : (false == (x52_3 == t125)) = false := by simpa using c27))
                        (try (have c27b3 : ¬ (false = (x52_3 == t125)) := by simpa using c27))
                        clear c27
                        obtain rfl := Option.some.inj H
                        go_wp2_with (first | ((with_reducible refine gate_callee (f := 8) rfl ?_); refine goesL_ (some 58) rfl rfl Try.func8 (by kernel_rfl) rfl #[.slice A0 l0.length c0, .int .i64 x52_3] rfl (by (try simp only [List.map_toArray, List.map_cons, List.map_nil]); first | done | rfl | (simp only [List.length_drop, List.length_take]; rfl)) ?_; (with_reducible refine (bags_Bounds.calls k3 _ _ l0 x52_3 t129 t130 t131 _ ?side1 ?side2 A22.out).mono ?_); (case side1 => repeat (first | exact (Kd.C_below HR0.out HB.out) | (with_reducible refine Kd.C_alloc ?_ _) | (with_reducible refine Kd.C_drewN ?_ _) | (with_reducible refine Kd.C_drew ?_))); (case side2 => exact HC0.out); rintro e w' ⟨rfl, ⟨nd, rfl⟩⟩; refine ⟨_, rfl, ?_⟩))
                        go_ret
                        exact ⟨by first | rfl | (simp [errW_none, errW_some] <;> rfl) | (simp only [← hji16]; first | rfl | (simp [errW_none, errW_some] <;> rfl)) | (simp [*, errW_none, errW_some] <;> rfl), by repeat (first | (with_reducible first | exact HB.out | apply below_alloc | apply pw_below_drewN | apply below_drew1) | exact HB.out)⟩
                      · rw [if_neg c27] at H
                        have c27b0 : (false != (x52_3 == t125)) = false := by simpa using c27
                        (try (have c27b1 : decide (false = (x52_3 == t125)) = true := by simpa using c27))
                        (try (have c27b2 : (false == (x52_3 == t125)) = true := by simpa using c27))
                        clear c27
                        have H' := Aside0.mk H
                        clear H
                        go_wp2_with (first | ((with_reducible refine gate_callee (f := 8) rfl ?_); refine goesL_ (some 58) rfl rfl Try.func8 (by kernel_rfl) rfl #[.slice A0 l0.length c0, .int .i64 x52_3] rfl (by (try simp only [List.map_toArray, List.map_cons, List.map_nil]); first | done | rfl | (simp only [List.length_drop, List.length_take]; rfl)) ?_; (with_reducible refine (bags_Bounds.calls k3 _ _ l0 x52_3 t129 t130 t131 _ ?side1 ?side2 A22.out).mono ?_); (case side1 => repeat (first | exact (Kd.C_below HR0.out HB.out) | (with_reducible refine Kd.C_alloc ?_ _) | (with_reducible refine Kd.C_drewN ?_ _) | (with_reducible refine Kd.C_drew ?_))); (case side2 => exact HC0.out); rintro e w' ⟨rfl, ⟨nd, rfl⟩⟩; refine ⟨_, rfl, ?_⟩))
                        go_roundg k3
                        case measure => have := HJ3.out; have := HJ17.out; have := HK3.out; omega
                        case rel => exact ⟨(wrap64 (x52_3 + 1)), (by first | rfl | (simp; done) | (simp [*]; done)), H', ⟨by have := HJ3.out; have := HJ17.out; have := HK3.out; omega⟩, ⟨by repeat (first | (with_reducible first | exact HB.out | apply below_alloc | apply pw_below_drewN | apply below_drew1) | exact HB.out)⟩⟩
                  · rw [if_neg c21] at H
                    have c21b0 : decide (x52_3 < (wrap64 ((l0.length : Int) + 1))) = false := decide_eq_false c21
                    clear c21
                    obtain rfl := Option.some.inj H
                    go_wp2
                    go_ret
                    exact ⟨by first | rfl | (simp [errW_none, errW_some] <;> rfl) | (simp only [← hji16]; first | rfl | (simp [errW_none, errW_some] <;> rfl)) | (simp [*, errW_none, errW_some] <;> rfl), by repeat (first | (with_reducible first | exact HB.out | apply below_alloc | apply pw_below_drewN | apply below_drew1) | exact HB.out)⟩

/-- THE ONE PURE STATEMENT of psephoslaw08_BagsBounds: yours. -/
def psephoslaw08_BagsBounds.Pure : Prop := ∀ (l0 : List Int) (a1 : Int) (a2 : Int), l0.length ≤ maxLen → l0.length * 8 ≤ 140737488351232 → (∀ x ∈ l0, (Lit.int .u64 x).wf = true) → (Lit.int .u64 a1).wf = true → (Lit.int .u64 a2).wf = true → ∃ k, psephoslaw08_BagsBounds.f k l0 a1 a2 = some true
theorem psephoslaw08_BagsBounds.walk (P : psephoslaw08_BagsBounds.Pure) (a0 : Option Addr) (len0 cap0 : Nat) (z0 : List Int) (a1 : Int) (a2 : Int) (w : World) (w0 : (a0 = none ∧ len0 = 0 ∧ cap0 = 0 ∧ z0 = []) ∨ ∃ x, a0 = some x ∧ len0 ≤ cap0 ∧ cap0 ≤ maxLen ∧ z0.length = cap0 ∧ (∀ i, i < z0.length → w.cell? (x.add i) = some (.int .u64 (z0.getD i 0))) ∧ ∀ n ∈ z0, (Lit.int .u64 n).wf = true) (y0 : len0 * 8 ≤ 140737488351232) (w1 : (Lit.int .u64 a1).wf = true) (w2 : (Lit.int .u64 a2).wf = true) :
    Calls Try.prog 4 #[.slice a0 len0 cap0, .int .u64 a1, .int .u64 a2] w fun e w' => e = .returned (.bool true) ∧ Below w.heap.size w w' := by
  obtain ⟨l0, rfl, hr0, hm0, hw0, hc0⟩ := ReadsInt.ofRowC w0
  obtain ⟨k, h⟩ := P l0 a1 a2 hm0 y0 hw0 w1 w2
  refine (psephoslaw08_BagsBounds.calls k _ _ l0 a1 a2 true w (Kd.C_of_reads (d := (0 : Int)) (h1 := fun _ => rfl) hr0) hc0 h).mono ?_
  rintro e w' ⟨rfl, hd⟩
  exact ⟨rfl, hd⟩

end Go.Proofs.Ytjloknjgipcefaa.PBagsBounds
