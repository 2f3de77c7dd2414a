/- The law ScoreBetter: its walk. -/
import Derived.Test.YtpcebifdlgkccaaOs
import Derived.Lib.SmallJoins
import Derived.Test.YtpcebifdlgkccaaRd
set_option linter.unusedVariables false
set_option linter.unusedSimpArgs false
namespace Go.Proofs.Ytpcebifdlgkccaa
open Go.RowKit Go.Ps

def AwPost (w : World) (e : Ending) (w' : World) : Prop := e = .returned (.bool true) ∧ Chg (fun _ => False) w w'
set_option maxHeartbeats 1000000 in
theorem awake_any (w : World) : Calls Try.prog 5 #[] w (AwPost w) := by
  have h := of_any [3, 4] (w.alloc (.cells #[.int .u64 3, .int .u64 4] 29)) (some ⟨w.heap.size, 0, none⟩) 2 (ReadsI.of_block (t := 29) (fr := (0, 0)) (heap_alloc_at _ _)) (by simp) (by intro x hx; simp at hx; rcases hx with rfl | rfl <;> exact ⟨by omega, by omega⟩)
  have e : scoreOf [3, 4] = (⟨3, 7, 0, 25⟩, 0) := by simp [scoreOf, sumU, minU, sqs]
  rw [e] at h
  unfold OfPost Sc.v at h
  go_enter Try.func5, Try.ntmps5
  go_wp2_with fail
  refine h.mono ?_
  rintro e w1 ⟨rfl, hC⟩
  have HC := Lib.hid hC
  clear hC h
  simp only []
  go_wp2
  go_ret
  exact ⟨rfl, chg_trans ((Chg.refl _ w).alloc _) (HC.out.alloc _)⟩
theorem bet_iff (a b : Sc) : bet a b = true ↔ b.min < a.min ∨ a.min = b.min ∧ (b.sum < a.sum ∨ a.sum = b.sum ∧ (a.high < b.high ∨ a.high = b.high ∧ a.low < b.low)) := by
  obtain ⟨a0, a1, a2, a3⟩ := a
  obtain ⟨b0, b1, b2, b3⟩ := b
  simp only
  by_cases h0 : a0 = b0
  · subst h0
    by_cases h1 : a1 = b1
    · subst h1
      by_cases h2 : a2 = b2
      · subst h2
        rw [bet3, decide_eq_true_eq]
        omega
      · rw [bet2 h2, decide_eq_true_eq]
        omega
    · rw [bet1 h1, decide_eq_true_eq]
      omega
  · rw [bet0 h0, decide_eq_true_eq]
    omega
theorem bet_irr (a : Sc) : bet a a = false := by
  rw [Bool.eq_false_iff]
  intro h
  rw [bet_iff] at h
  omega
theorem bet_asym {a b : Sc} (h : bet a b = true) : bet b a = false := by
  rw [Bool.eq_false_iff]
  intro h2
  rw [bet_iff] at h h2
  omega
theorem bet_trans {a b c : Sc} (h : bet a b = true) (h2 : bet b c = true) : bet a c = true := by
  rw [bet_iff] at *
  omega
section
open Go.Joins Go.WideShapes
variable {H : Type} {enc : TypeId × Value → H} {W : World} {base : Nat} {spare : Nat → Bool} {held : Bool}
theorem open_sc {r : Reach} {b0 : Nat} {v : Value} {d : DataW H} {p : List MemPlace} (hv : Value.okWide Try.prog W r b0 31 v) (h : DataW.Trod enc Try.prog W base spare held 31 v d p) : ∃ z : Sc, v = z.v ∧ True := by
  obtain ⟨v0, v1, v2, v3, y0, y1, y2, y3, n, rfl, _, _, h0, h1, h2, h3⟩ := open_agg4 Try.underlying31 (by kernel_rfl) (by kernel_rfl) hv h
  obtain ⟨a0, e0, _, w0⟩ := DataW.trod_int Try.underlying29 h0
  obtain ⟨a1, e1, _, w1⟩ := DataW.trod_int Try.underlying29 h1
  obtain ⟨a2, e2, _, w2⟩ := DataW.trod_int Try.underlying29 h2
  obtain ⟨a3, e3, _, w3⟩ := DataW.trod_int Try.underlying29 h3
  simp only [List.cons.injEq, and_true] at e0 e1 e2 e3
  subst e0 e1 e2 e3
  exact ⟨⟨a0, a1, a2, a3⟩, rfl, trivial⟩
end
/-- What the law's region finds in memory. -/
structure Two (w1 : World) (n : Nat) (a b : Sc) (W : World) : Prop where
  x0 : W.cell? ⟨n, 0, none⟩ = some (.int .u64 a.min)
  x1 : W.cell? ⟨n, 1, none⟩ = some (.int .u64 a.sum)
  x2 : W.cell? ⟨n, 2, none⟩ = some (.int .u64 a.high)
  x3 : W.cell? ⟨n, 3, none⟩ = some (.int .u64 a.low)
  y0 : W.cell? ⟨n + 1, 0, none⟩ = some (.int .u64 b.min)
  y1 : W.cell? ⟨n + 1, 1, none⟩ = some (.int .u64 b.sum)
  y2 : W.cell? ⟨n + 1, 2, none⟩ = some (.int .u64 b.high)
  y3 : W.cell? ⟨n + 1, 3, none⟩ = some (.int .u64 b.low)
  chg : Chg (fun _ => False) w1 W
theorem Two.keep {w1 W W' : World} {n : Nat} {a b : Sc} (h : Two w1 n a b W) (hC : Chg (fun _ => False) W W') : Two w1 n a b W' :=
  ⟨chg_cell hC h.x0 id, chg_cell hC h.x1 id, chg_cell hC h.x2 id, chg_cell hC h.x3 id, chg_cell hC h.y0 id, chg_cell hC h.y1 id, chg_cell hC h.y2 id, chg_cell hC h.y3 id, chg_trans h.chg hC⟩
theorem better_is {a b : Sc} {x : Bool} (h : bet a b = x) (w : World) : Calls Try.prog 11 #[a.v, b.v] w fun e w' => e = .returned (.bool x) ∧ Chg (fun _ => False) w w' := by
  have := better_any a b w
  unfold BetPost at this
  rwa [h] at this
theorem rbetter_is {a b : Sc} {x : Bool} (h : bet a b = x) (w : World) : Calls Try.prog 12 #[a.v, b.v] w fun e w' => e = .returned (.bool x) ∧ Chg (fun _ => False) w w' := by
  have := rbetter_any a b w
  unfold BetPost at this
  rwa [h] at this
set_option maxRecDepth 20000 in
set_option maxHeartbeats 2000000 in
theorem scoreBetter_walk (a b c : Sc) (w : World) (ha : True) (hb : True) (hc : True) : Calls Try.prog 4 #[a.v, b.v, c.v] w fun e w' => e = .returned (.bool true) ∧ Below w.heap.size w w' := by
  have haa := bet_irr a
  have hasym : bet a b = true → bet b a = false := bet_asym
  have htr : bet a b = true → bet b c = true → bet a c = true := bet_trans
  obtain ⟨a0, a1, a2, a3⟩ := a
  obtain ⟨b0, b1, b2, b3⟩ := b
  obtain ⟨c0, c1, c2, c3⟩ := c
  cases hx : bet ⟨a0, a1, a2, a3⟩ ⟨b0, b1, b2, b3⟩ with
  | false =>
    have k11 := fun W => better_is hx W
    have k12 := fun W => rbetter_is hx W
    have kaa := fun W => better_is haa W
    unfold Sc.v at *
    clear hasym htr haa hx
    go_enter Try.func4, Try.ntmps4
    go_wp2_with fail
    refine (awake_any _).mono ?_
    rintro e w1 ⟨rfl, hC1⟩
    have x0 := chg_cell (p := ⟨w.heap.size, 0, none⟩) (v := .int .u64 a0) hC1 (by go_simp) id
    have x1 := chg_cell (p := ⟨w.heap.size, 1, none⟩) (v := .int .u64 a1) hC1 (by go_simp) id
    have x2 := chg_cell (p := ⟨w.heap.size, 2, none⟩) (v := .int .u64 a2) hC1 (by go_simp) id
    have x3 := chg_cell (p := ⟨w.heap.size, 3, none⟩) (v := .int .u64 a3) hC1 (by go_simp) id
    have y0 := chg_cell (p := ⟨w.heap.size + 1, 0, none⟩) (v := .int .u64 b0) hC1 (by go_simp) id
    have y1 := chg_cell (p := ⟨w.heap.size + 1, 1, none⟩) (v := .int .u64 b1) hC1 (by go_simp) id
    have y2 := chg_cell (p := ⟨w.heap.size + 1, 2, none⟩) (v := .int .u64 b2) hC1 (by go_simp) id
    have y3 := chg_cell (p := ⟨w.heap.size + 1, 3, none⟩) (v := .int .u64 b3) hC1 (by go_simp) id
    have z0 := chg_cell (p := ⟨w.heap.size + 1 + 1, 0, none⟩) (v := .int .u64 c0) hC1 (by go_simp) id
    have z1 := chg_cell (p := ⟨w.heap.size + 1 + 1, 1, none⟩) (v := .int .u64 c1) hC1 (by go_simp) id
    have z2 := chg_cell (p := ⟨w.heap.size + 1 + 1, 2, none⟩) (v := .int .u64 c2) hC1 (by go_simp) id
    have z3 := chg_cell (p := ⟨w.heap.size + 1 + 1, 3, none⟩) (v := .int .u64 c3) hC1 (by go_simp) id
    have hT : Two w1 w.heap.size ⟨a0, a1, a2, a3⟩ ⟨b0, b1, b2, b3⟩ w1.drew := ⟨x0, x1, x2, x3, y0, y1, y2, y3, (Chg.refl _ _).drew⟩
    have HC1 := Lib.hid hC1
    have HZ := Lib.hid (And.intro z0 (And.intro z1 (And.intro z2 z3)))
    clear hC1 z0 z1 z2 z3
    go_wp2_with fail
    refine wp_region_same (Two w1 w.heap.size ⟨a0, a1, a2, a3⟩ ⟨b0, b1, b2, b3⟩) (by kernel_rfl) (by kernel_rfl) hT ?_
    clear hT x0 x1 x2 x3 y0 y1 y2 y3
    repeat (first | (refine wpDet_skip (by rfl) ?_; simp only [Act.put, List.setIfInBounds_toArray, List.set_cons_zero, List.set_cons_succ]) | (apply wpDet_step (by rfl); (focus (intro W hW; have hW2 := hW; obtain ⟨x0, x1, x2, x3, y0, y1, y2, y3, _⟩ := hW2; go_simp; (first | (with_reducible exact HasV.val hW) | ((with_reducible refine HasV.call (k11 W) ?_); exact fun w' h => hW.keep h) | ((with_reducible refine HasV.call (kaa W) ?_); exact fun w' h => hW.keep h) | ((with_reducible refine HasV.call (k12 W) ?_); exact fun w' h => hW.keep h)))); simp only [Act.put, List.setIfInBounds_toArray, List.set_cons_zero, List.set_cons_succ]))
    refine wpDet_nil ?_
    intro W hW
    obtain ⟨x0, x1, x2, x3, y0, y1, y2, y3, hC2⟩ := hW
    obtain ⟨z0, z1, z2, z3⟩ := HZ.out
    have z0 := chg_cell hC2 z0 id
    have z1 := chg_cell hC2 z1 id
    have z2 := chg_cell hC2 z2 id
    have z3 := chg_cell hC2 z3 id
    have HC2 := Lib.hid hC2
    clear hC2 HZ
    go_wp2_with fail
    refine (k11 _).mono ?_
    rintro e w3 ⟨rfl, hC3⟩
    have HC3 := Lib.hid hC3
    clear hC3
    go_wp2
    go_ret
    exact ⟨rfl, chg_to_below (chg_trans (chg_trans (chg_trans ((((Chg.refl _ w).alloc _).alloc _).alloc _) HC1.out) HC2.out) HC3.out)⟩
  | true =>
    cases hy : bet ⟨b0, b1, b2, b3⟩ ⟨c0, c1, c2, c3⟩ with
    | false =>
      have k11 := fun W => better_is hx W
      have k12 := fun W => rbetter_is hx W
      have kaa := fun W => better_is haa W
      have kba := fun W => better_is (hasym hx) W
      have kbc := fun W => better_is hy W
      unfold Sc.v at *
      clear hasym htr haa hx hy
      go_enter Try.func4, Try.ntmps4
      go_wp2_with fail
      refine (awake_any _).mono ?_
      rintro e w1 ⟨rfl, hC1⟩
      have x0 := chg_cell (p := ⟨w.heap.size, 0, none⟩) (v := .int .u64 a0) hC1 (by go_simp) id
      have x1 := chg_cell (p := ⟨w.heap.size, 1, none⟩) (v := .int .u64 a1) hC1 (by go_simp) id
      have x2 := chg_cell (p := ⟨w.heap.size, 2, none⟩) (v := .int .u64 a2) hC1 (by go_simp) id
      have x3 := chg_cell (p := ⟨w.heap.size, 3, none⟩) (v := .int .u64 a3) hC1 (by go_simp) id
      have y0 := chg_cell (p := ⟨w.heap.size + 1, 0, none⟩) (v := .int .u64 b0) hC1 (by go_simp) id
      have y1 := chg_cell (p := ⟨w.heap.size + 1, 1, none⟩) (v := .int .u64 b1) hC1 (by go_simp) id
      have y2 := chg_cell (p := ⟨w.heap.size + 1, 2, none⟩) (v := .int .u64 b2) hC1 (by go_simp) id
      have y3 := chg_cell (p := ⟨w.heap.size + 1, 3, none⟩) (v := .int .u64 b3) hC1 (by go_simp) id
      have z0 := chg_cell (p := ⟨w.heap.size + 1 + 1, 0, none⟩) (v := .int .u64 c0) hC1 (by go_simp) id
      have z1 := chg_cell (p := ⟨w.heap.size + 1 + 1, 1, none⟩) (v := .int .u64 c1) hC1 (by go_simp) id
      have z2 := chg_cell (p := ⟨w.heap.size + 1 + 1, 2, none⟩) (v := .int .u64 c2) hC1 (by go_simp) id
      have z3 := chg_cell (p := ⟨w.heap.size + 1 + 1, 3, none⟩) (v := .int .u64 c3) hC1 (by go_simp) id
      have hT : Two w1 w.heap.size ⟨a0, a1, a2, a3⟩ ⟨b0, b1, b2, b3⟩ w1.drew := ⟨x0, x1, x2, x3, y0, y1, y2, y3, (Chg.refl _ _).drew⟩
      have HC1 := Lib.hid hC1
      have HZ := Lib.hid (And.intro z0 (And.intro z1 (And.intro z2 z3)))
      clear hC1 z0 z1 z2 z3
      go_wp2_with fail
      refine wp_region_same (Two w1 w.heap.size ⟨a0, a1, a2, a3⟩ ⟨b0, b1, b2, b3⟩) (by kernel_rfl) (by kernel_rfl) hT ?_
      clear hT x0 x1 x2 x3 y0 y1 y2 y3
      repeat (first | (refine wpDet_skip (by rfl) ?_; simp only [Act.put, List.setIfInBounds_toArray, List.set_cons_zero, List.set_cons_succ]) | (apply wpDet_step (by rfl); (focus (intro W hW; have hW2 := hW; obtain ⟨x0, x1, x2, x3, y0, y1, y2, y3, _⟩ := hW2; go_simp; (first | (with_reducible exact HasV.val hW) | ((with_reducible refine HasV.call (k11 W) ?_); exact fun w' h => hW.keep h) | ((with_reducible refine HasV.call (kaa W) ?_); exact fun w' h => hW.keep h) | ((with_reducible refine HasV.call (k12 W) ?_); exact fun w' h => hW.keep h) | ((with_reducible refine HasV.call (kba W) ?_); exact fun w' h => hW.keep h)))); simp only [Act.put, List.setIfInBounds_toArray, List.set_cons_zero, List.set_cons_succ]))
      refine wpDet_nil ?_
      intro W hW
      obtain ⟨x0, x1, x2, x3, y0, y1, y2, y3, hC2⟩ := hW
      obtain ⟨z0, z1, z2, z3⟩ := HZ.out
      have z0 := chg_cell hC2 z0 id
      have z1 := chg_cell hC2 z1 id
      have z2 := chg_cell hC2 z2 id
      have z3 := chg_cell hC2 z3 id
      have HC2 := Lib.hid hC2
      clear hC2 HZ
      go_wp2_with fail
      refine (k11 _).mono ?_
      rintro e w3 ⟨rfl, hC3⟩
      have x0 := chg_cell hC3 x0 id
      have y0 := chg_cell hC3 y0 id
      have z0 := chg_cell hC3 z0 id
      have x1 := chg_cell hC3 x1 id
      have y1 := chg_cell hC3 y1 id
      have z1 := chg_cell hC3 z1 id
      have x2 := chg_cell hC3 x2 id
      have y2 := chg_cell hC3 y2 id
      have z2 := chg_cell hC3 z2 id
      have x3 := chg_cell hC3 x3 id
      have y3 := chg_cell hC3 y3 id
      have z3 := chg_cell hC3 z3 id
      have HC3 := Lib.hid hC3
      clear hC3
      go_wp2_with fail
      refine (kbc _).mono ?_
      rintro e w4 ⟨rfl, hC4⟩
      have HC4 := Lib.hid hC4
      clear hC4
      go_wp2
      go_ret
      exact ⟨rfl, chg_to_below (chg_trans (chg_trans (chg_trans (chg_trans ((((Chg.refl _ w).alloc _).alloc _).alloc _) HC1.out) HC2.out) HC3.out) HC4.out)⟩
    | true =>
      have k11 := fun W => better_is hx W
      have k12 := fun W => rbetter_is hx W
      have kaa := fun W => better_is haa W
      have kba := fun W => better_is (hasym hx) W
      have kbc := fun W => better_is hy W
      have kac := fun W => better_is (htr hx hy) W
      unfold Sc.v at *
      clear hasym htr haa hx hy
      go_enter Try.func4, Try.ntmps4
      go_wp2_with fail
      refine (awake_any _).mono ?_
      rintro e w1 ⟨rfl, hC1⟩
      have x0 := chg_cell (p := ⟨w.heap.size, 0, none⟩) (v := .int .u64 a0) hC1 (by go_simp) id
      have x1 := chg_cell (p := ⟨w.heap.size, 1, none⟩) (v := .int .u64 a1) hC1 (by go_simp) id
      have x2 := chg_cell (p := ⟨w.heap.size, 2, none⟩) (v := .int .u64 a2) hC1 (by go_simp) id
      have x3 := chg_cell (p := ⟨w.heap.size, 3, none⟩) (v := .int .u64 a3) hC1 (by go_simp) id
      have y0 := chg_cell (p := ⟨w.heap.size + 1, 0, none⟩) (v := .int .u64 b0) hC1 (by go_simp) id
      have y1 := chg_cell (p := ⟨w.heap.size + 1, 1, none⟩) (v := .int .u64 b1) hC1 (by go_simp) id
      have y2 := chg_cell (p := ⟨w.heap.size + 1, 2, none⟩) (v := .int .u64 b2) hC1 (by go_simp) id
      have y3 := chg_cell (p := ⟨w.heap.size + 1, 3, none⟩) (v := .int .u64 b3) hC1 (by go_simp) id
      have z0 := chg_cell (p := ⟨w.heap.size + 1 + 1, 0, none⟩) (v := .int .u64 c0) hC1 (by go_simp) id
      have z1 := chg_cell (p := ⟨w.heap.size + 1 + 1, 1, none⟩) (v := .int .u64 c1) hC1 (by go_simp) id
      have z2 := chg_cell (p := ⟨w.heap.size + 1 + 1, 2, none⟩) (v := .int .u64 c2) hC1 (by go_simp) id
      have z3 := chg_cell (p := ⟨w.heap.size + 1 + 1, 3, none⟩) (v := .int .u64 c3) hC1 (by go_simp) id
      have hT : Two w1 w.heap.size ⟨a0, a1, a2, a3⟩ ⟨b0, b1, b2, b3⟩ w1.drew := ⟨x0, x1, x2, x3, y0, y1, y2, y3, (Chg.refl _ _).drew⟩
      have HC1 := Lib.hid hC1
      have HZ := Lib.hid (And.intro z0 (And.intro z1 (And.intro z2 z3)))
      clear hC1 z0 z1 z2 z3
      go_wp2_with fail
      refine wp_region_same (Two w1 w.heap.size ⟨a0, a1, a2, a3⟩ ⟨b0, b1, b2, b3⟩) (by kernel_rfl) (by kernel_rfl) hT ?_
      clear hT x0 x1 x2 x3 y0 y1 y2 y3
      repeat (first | (refine wpDet_skip (by rfl) ?_; simp only [Act.put, List.setIfInBounds_toArray, List.set_cons_zero, List.set_cons_succ]) | (apply wpDet_step (by rfl); (focus (intro W hW; have hW2 := hW; obtain ⟨x0, x1, x2, x3, y0, y1, y2, y3, _⟩ := hW2; go_simp; (first | (with_reducible exact HasV.val hW) | ((with_reducible refine HasV.call (k11 W) ?_); exact fun w' h => hW.keep h) | ((with_reducible refine HasV.call (kaa W) ?_); exact fun w' h => hW.keep h) | ((with_reducible refine HasV.call (k12 W) ?_); exact fun w' h => hW.keep h) | ((with_reducible refine HasV.call (kba W) ?_); exact fun w' h => hW.keep h)))); simp only [Act.put, List.setIfInBounds_toArray, List.set_cons_zero, List.set_cons_succ]))
      refine wpDet_nil ?_
      intro W hW
      obtain ⟨x0, x1, x2, x3, y0, y1, y2, y3, hC2⟩ := hW
      obtain ⟨z0, z1, z2, z3⟩ := HZ.out
      have z0 := chg_cell hC2 z0 id
      have z1 := chg_cell hC2 z1 id
      have z2 := chg_cell hC2 z2 id
      have z3 := chg_cell hC2 z3 id
      have HC2 := Lib.hid hC2
      clear hC2 HZ
      go_wp2_with fail
      refine (k11 _).mono ?_
      rintro e w3 ⟨rfl, hC3⟩
      have x0 := chg_cell hC3 x0 id
      have y0 := chg_cell hC3 y0 id
      have z0 := chg_cell hC3 z0 id
      have x1 := chg_cell hC3 x1 id
      have y1 := chg_cell hC3 y1 id
      have z1 := chg_cell hC3 z1 id
      have x2 := chg_cell hC3 x2 id
      have y2 := chg_cell hC3 y2 id
      have z2 := chg_cell hC3 z2 id
      have x3 := chg_cell hC3 x3 id
      have y3 := chg_cell hC3 y3 id
      have z3 := chg_cell hC3 z3 id
      have HC3 := Lib.hid hC3
      clear hC3
      go_wp2_with fail
      refine (kbc _).mono ?_
      rintro e w4 ⟨rfl, hC4⟩
      have x0 := chg_cell hC4 x0 id
      have z0 := chg_cell hC4 z0 id
      have x1 := chg_cell hC4 x1 id
      have z1 := chg_cell hC4 z1 id
      have x2 := chg_cell hC4 x2 id
      have z2 := chg_cell hC4 z2 id
      have x3 := chg_cell hC4 x3 id
      have z3 := chg_cell hC4 z3 id
      have HC4 := Lib.hid hC4
      clear hC4
      go_wp2_with fail
      refine (kac _).mono ?_
      rintro e w5 ⟨rfl, hC5⟩
      have HC5 := Lib.hid hC5
      clear hC5
      go_wp2
      go_ret
      exact ⟨rfl, chg_to_below (chg_trans (chg_trans (chg_trans (chg_trans (chg_trans ((((Chg.refl _ w).alloc _).alloc _).alloc _) HC1.out) HC2.out) HC3.out) HC4.out) HC5.out)⟩
end Go.Proofs.Ytpcebifdlgkccaa
