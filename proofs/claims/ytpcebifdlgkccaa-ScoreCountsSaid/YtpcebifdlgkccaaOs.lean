/- Scores: the score of supports. -/
import Derived.Test.YtpcebifdlgkccaaOf
set_option linter.unusedVariables false
set_option linter.unusedSimpArgs false
namespace Go.Proofs.Ytpcebifdlgkccaa
open Go.RowKit Go.Ps

def sqs : List Int → Int
  | [] => 0
  | x :: l => x * x + sqs l
def sumZ : List Int → Int
  | [] => 0
  | x :: l => x + sumZ l
def scoreOf (l : List Int) : Sc × Int :=
  if (sumU 0 l).2 = 0 then (match l with | [] => (⟨0, 0, 0, 0⟩, 0) | x :: t => (⟨minU x t, (sumU 0 l).1, sqs l / 18446744073709551616, sqs l % 18446744073709551616⟩, 0)) else (⟨0, 0, 0, 0⟩, (sumU 0 l).2)
def OfPost (r : Sc × Int) (w : World) (e : Ending) (w' : World) : Prop := e = .returned (.tuple #[r.1.v, .int .i64 r.2]) ∧ Chg (fun _ => False) w w'
theorem sumU_cases : ∀ (l : List Int) (n : Int), AllU l → 0 ≤ n → n < 18446744073709551616 → (sumU n l = (n + sumZ l, 0) ∧ n + sumZ l < 18446744073709551616) ∨ sumU n l = (0, 3)
  | [], n, _, h0, h1 => by simp [sumU, sumZ]; omega
  | x :: l, n, hu, h0, h1 => by
    have hx := (hu x (by simp)).1
    unfold sumU sumZ
    split
    · rename_i h
      rcases sumU_cases l (n + x) (fun y hy => hu y (by simp [hy])) (by omega) h with ⟨g1, g2⟩ | g
      · left
        rw [g1]
        exact ⟨by rw [Int.add_assoc], by omega⟩
      · exact Or.inr g
    · exact Or.inr rfl
theorem sumZ_nonneg : ∀ (l : List Int), AllU l → 0 ≤ sumZ l
  | [], _ => by simp [sumZ]
  | x :: l, hu => by
    have hx := (hu x (by simp)).1
    have := sumZ_nonneg l (fun y hy => hu y (by simp [hy]))
    unfold sumZ
    omega
theorem sqs_le : ∀ (l : List Int), AllU l → 0 ≤ sqs l ∧ sqs l ≤ sumZ l * sumZ l
  | [], _ => by simp [sqs, sumZ]
  | x :: l, hu => by
    have hx := (hu x (by simp)).1
    have hs := sumZ_nonneg l (fun y hy => hu y (by simp [hy]))
    obtain ⟨h1, h2⟩ := sqs_le l (fun y hy => hu y (by simp [hy]))
    have h3 : 0 ≤ x * x := Int.mul_nonneg hx hx
    have h4 : 0 ≤ x * sumZ l := Int.mul_nonneg hx hs
    have e : (x + sumZ l) * (x + sumZ l) = x * x + 2 * (x * sumZ l) + sumZ l * sumZ l := by grind
    unfold sqs sumZ
    rw [e]
    omega
theorem sqs_take_snoc (l : List Int) (k : Nat) (h : k < l.length) : sqs (l.take (k + 1)) = sqs (l.take k) + l.getD k 0 * l.getD k 0 := by
  have e : l.take (k + 1) = l.take k ++ [l.getD k 0] := by
    rw [List.take_add_one, List.getElem?_eq_getElem h, List.getD_eq_getElem?_getD, List.getElem?_eq_getElem h]
    rfl
  have hs : ∀ (a b : List Int), sqs (a ++ b) = sqs a + sqs b := fun a b => by
    induction a with
    | nil => simp [sqs]
    | cons x a ih => simp only [List.cons_append, sqs, ih]; omega
  rw [e, hs]
  simp [sqs]
theorem sqs_take_le : ∀ (l : List Int) (k : Nat), AllU l → 0 ≤ sqs (l.take k) ∧ sqs (l.take k) ≤ sqs l
  | [], k, _ => by simp [sqs]
  | x :: l, 0, hu => by
    have := (sqs_le (x :: l) hu).1
    exact ⟨by simp [sqs], by simpa [sqs] using this⟩
  | x :: l, k + 1, hu => by
    obtain ⟨h1, h2⟩ := sqs_take_le l k (fun y hy => hu y (by simp [hy]))
    have h3 : 0 ≤ x * x := Int.mul_nonneg (hu x (by simp)).1 (hu x (by simp)).1
    simp only [List.take_succ_cons, sqs]
    omega
/-- One more square: the low word, the carry, the high word. -/
theorem step_sq {Q x : Int} (hQ : 0 ≤ Q) (hx : 0 ≤ x * x) (hlt : Q + x * x < 340282366920938463463374607431768211456) :
    ∃ s lo hi ql qh, IntKind.u64.wrap (ql + lo) = s ∧ lo = x * x % 18446744073709551616 ∧ hi = x * x / 18446744073709551616 ∧ ql = Q % 18446744073709551616 ∧ qh = Q / 18446744073709551616 ∧ s = (Q + x * x) % 18446744073709551616 ∧
      (0 ≤ s ∧ s < 18446744073709551616) ∧ (0 ≤ lo ∧ lo < 18446744073709551616) ∧ (0 ≤ hi ∧ 0 ≤ qh) ∧
      ((s < lo ∧ qh + (hi + 1) = (Q + x * x) / 18446744073709551616 ∧ qh + (hi + 1) < 18446744073709551616) ∨ (¬ s < lo ∧ qh + hi = (Q + x * x) / 18446744073709551616 ∧ qh + hi < 18446744073709551616)) := by
  generalize x * x = y at *
  refine ⟨_, y % 18446744073709551616, y / 18446744073709551616, Q % 18446744073709551616, Q / 18446744073709551616, rfl, rfl, rfl, rfl, rfl, ?_, ?_, ?_, ?_, ?_⟩
  all_goals try rw [wrap64u]
  · omega
  · omega
  · omega
  · omega
  · by_cases h : (Q % 18446744073709551616 + y % 18446744073709551616) % 18446744073709551616 < y % 18446744073709551616
    · exact Or.inl ⟨h, by omega, by omega⟩
    · exact Or.inr ⟨h, by omega, by omega⟩
set_option maxRecDepth 20000 in
set_option maxHeartbeats 2000000 in
theorem of_any (l : List Int) (w : World) (A : Option Addr) (c : Nat) (hr : ReadsI w .u64 A l) (hl : l.length ≤ 200000000000000) (hu : AllU l) : Calls Try.prog 8 #[.slice A l.length c] w (OfPost (scoreOf l) w) := by
  have hs := fun W (hW : Chg (fun _ => False) w W) => sum_any l W A c (hr.chg hW (fun _ _ => id)) hl hu
  rcases sumU_cases l 0 hu (by omega) (by omega) with ⟨h1, h2⟩ | h1
  · cases l with
    | nil =>
      have fin : scoreOf [] = (⟨0, 0, 0, 0⟩, 0) := by unfold scoreOf; rfl
      rw [fin]
      have hsum := hs (w.alloc (.cells #[.int .u64 0, .int .u64 0, .int .u64 0, .int .u64 0] 31)) ((Chg.refl _ _).alloc _)
      rw [h1] at hsum
      unfold SumPost sumZ at hsum
      clear h1 h2 hs hr hl hu fin
      go_enter Try.func8, Try.ntmps8
      go_wp2_with (go_at_call 15; refine hsum.mono ?_; rintro e w' ⟨rfl, rfl⟩)
      exact bodyPost_ret (v := .tuple #[.agg #[.int .u64 0, .int .u64 0, .int .u64 0, .int .u64 0], .int .i64 0]) (by simp [results, Try.results8, go_sem]) rfl ⟨rfl, by repeat (first | exact Chg.refl _ _ | apply Chg.drew | apply Chg.alloc | (refine Chg.setCell ?_ (fun h => absurd h (by simp)) _))⟩
    | cons x t =>
      have fin : scoreOf (x :: t) = (⟨minU x t, sumZ (x :: t), sqs (x :: t) / 18446744073709551616, sqs (x :: t) % 18446744073709551616⟩, 0) := by unfold scoreOf; rw [h1]; simp
      rw [fin, Int.zero_add] at *
      have hS0 := sumZ_nonneg (x :: t) hu
      have hq := sqs_le (x :: t) hu
      have hSS : sumZ (x :: t) * sumZ (x :: t) ≤ 18446744073709551615 * 18446744073709551615 := Int.mul_le_mul (by omega) (by omega) hS0 (by omega)
      have hQ : sqs (x :: t) < 340282366920938463463374607431768211456 := by omega
      have hsum := hs (w.alloc (.cells #[.int .u64 0, .int .u64 0, .int .u64 0, .int .u64 0] 31)) ((Chg.refl _ _).alloc _)
      rw [h1] at hsum
      unfold SumPost at hsum
      simp only [List.length_cons] at hsum hl
      have hmin := min_any x t (w.alloc (.cells #[.int .u64 0, .int .u64 0, .int .u64 0, .int .u64 0] 31)) A c (hr.alloc _) (by omega)
      obtain ⟨S, hS⟩ : ∃ S, S = sumZ (x :: t) := ⟨_, rfl⟩
      obtain ⟨M, hM⟩ : ∃ S, S = minU x t := ⟨_, rfl⟩
      obtain ⟨Z, hZ⟩ : ∃ S, S = sqs (x :: t) := ⟨_, rfl⟩
      rw [← hS] at hsum h2 ⊢
      rw [← hM] at hmin ⊢
      rw [← hZ] at hQ ⊢
      have HZ := Lib.hid hZ
      have HR := Lib.hid hr
      have HU := Lib.hid hu
      simp only [List.length_cons]
      clear h1 hs hr hu fin hS hM hZ hSS hq hS0
      go_enter Try.func8, Try.ntmps8
      go_wp2_with (go_at_call 15; refine hsum.mono ?_; rintro e w' ⟨rfl, rfl⟩)
      refine hmin.mono ?_
      rintro e w' ⟨rfl, rfl⟩
      go_wp2
      clear hsum hmin
      go_loopw [31] (fun i wr => ∃ k : Nat, k ≤ t.length + 1 ∧ i = .int .i64 k ∧ wr.heap[w.heap.size]? = some (.cells #[.int .u64 0, .int .u64 0, .int .u64 0, .int .u64 0] 31 (0, 0)) ∧ wr.heap[w.heap.size + 1]? = some (.cells #[.int .u64 M, .int .u64 S, .int .u64 (sqs ((x :: t).take k) / 18446744073709551616), .int .u64 (sqs ((x :: t).take k) % 18446744073709551616)] 31 (0, 0)) ∧ Chg (fun _ => False) w wr) (fun i _ => t.length + 1 - (intOf i).toNat)
      case atStart => exact ⟨0, by omega, rfl, by rw [heap_alloc_ne (heap_alloc_at _ _)], heap_at _ _ _ (by simp), ((Chg.refl _ _).alloc _).alloc _⟩
      case round =>
        obtain ⟨k, hk, rfl, hb0, hb1, hC⟩ := hrel
        by_cases hk2 : k < t.length + 1
        · obtain ⟨g, o, rfl, hx⟩ := HR.out.plain (by simp)
          have hcell := chg_cell hC (hx k hk2) id
          have hsn := sqs_take_snoc (x :: t) k hk2
          have hle := (sqs_take_le (x :: t) k HU.out).1
          have hle2 := (sqs_take_le (x :: t) (k + 1) HU.out).2
          rw [← HZ.out] at hle2
          have hxu := HU.out.getD k
          obtain ⟨y, hy⟩ : ∃ y, y = (x :: t).getD k 0 := ⟨_, rfl⟩
          obtain ⟨Q, hQe⟩ : ∃ y, y = sqs ((x :: t).take k) := ⟨_, rfl⟩
          rw [← hy] at hcell hsn hxu
          rw [← hQe] at hb1 hsn hle
          obtain ⟨s, lo, hi, ql, qh, g1, g2, g3, g4, g5, g6, g7, g8, g9, g10⟩ := step_sq hle (Int.mul_nonneg hxu.1 hxu.1) (by omega)
          rw [← g4, ← g5] at hb1
          have hsq := sq_any y wr hxu
          rw [← g2, ← g3] at hsq
          rw [← hsn] at g6 g10
          have HB0 := Lib.hid hb0
          have HB1 := Lib.hid hb1
          have HC := Lib.hid hC
          have c2 := cell_of hb1 2 rfl
          have c3 := cell_of hb1 3 rfl
          have f2 := frozen_of hb1 2
          have f3 := frozen_of hb1 3
          have hX : ∀ u : Int, ((wr.setCell ⟨w.heap.size + 1, 3, none⟩ (.int .u64 s)).setCell ⟨w.heap.size + 1, 2, none⟩ (.int .u64 u)).heap[w.heap.size]? = some (.cells #[.int .u64 0, .int .u64 0, .int .u64 0, .int .u64 0] 31 (0, 0)) ∧
              ((wr.setCell ⟨w.heap.size + 1, 3, none⟩ (.int .u64 s)).setCell ⟨w.heap.size + 1, 2, none⟩ (.int .u64 u)).heap[w.heap.size + 1]? = some (.cells #[.int .u64 M, .int .u64 S, .int .u64 u, .int .u64 s] 31 (0, 0)) ∧
              Chg (fun _ => False) w ((wr.setCell ⟨w.heap.size + 1, 3, none⟩ (.int .u64 s)).setCell ⟨w.heap.size + 1, 2, none⟩ (.int .u64 u)) := fun u =>
            ⟨by rw [heap_setCell_ne (by omega), heap_setCell_ne (by omega)]; exact hb0, by rw [heap_setCell (heap_setCell hb1 3 _) 2 _]; rfl, (hC.setCell (fun h => absurd h (by simp)) _).setCell (fun h => absurd h (by simp)) _⟩
          have HX := Lib.hid hX
          have H6 := Lib.hid g6
          obtain ⟨g7a, g7b⟩ := g7
          obtain ⟨g8a, g8b⟩ := g8
          obtain ⟨g9a, g9b⟩ := g9
          clear hsn hle hle2 hxu hy hQe g2 g3 g4 g5 hb0 hb1 hC hx hX g6 h2 hQ
          rcases g10 with ⟨a1, a2, a3⟩ | ⟨a1, a2, a3⟩
          · have HA := Lib.hid a2
            have a4 : hi + 1 < 18446744073709551616 := by omega
            clear a2
            go_wp2_with (go_at_call 17; refine hsq.mono ?_; rintro e w' ⟨rfl, rfl⟩)
            go_roundw
            case rel => exact ⟨k + 1, by omega, by go_num, by rw [← HA.out, ← H6.out]; exact HX.out _⟩
            case measure => simp [intOf]; omega
          · have HA := Lib.hid a2
            clear a2
            go_wp2_with (go_at_call 17; refine hsq.mono ?_; rintro e w' ⟨rfl, rfl⟩)
            go_roundw
            case rel => exact ⟨k + 1, by omega, by go_num, by rw [← HA.out, ← H6.out]; exact HX.out _⟩
            case measure => simp [intOf]; omega
        · have ej : k = t.length + 1 := by omega
          subst ej
          rw [List.take_of_length_le (by simp), ← HZ.out] at hb1
          have c0 := cell_of hb1 0 rfl
          have c1 := cell_of hb1 1 rfl
          have c2 := cell_of hb1 2 rfl
          have c3 := cell_of hb1 3 rfl
          have d0 := cell_of hb0 0 rfl
          have d1 := cell_of hb0 1 rfl
          have d2 := cell_of hb0 2 rfl
          have d3 := cell_of hb0 3 rfl
          have f0 := frozen_of hb0 0
          have f1 := frozen_of hb0 1
          have f2 := frozen_of hb0 2
          have f3 := frozen_of hb0 3
          have HC := Lib.hid hC
          clear hb0 hb1 hC
          go_wp2
          exact bodyPost_ret (v := .tuple #[.agg #[.int .u64 M, .int .u64 S, .int .u64 (Z / 18446744073709551616), .int .u64 (Z % 18446744073709551616)], .int .i64 0]) (by simp [results, Try.results8, go_sem, d0, d1, d2, d3]) rfl ⟨rfl, by
            repeat (first | exact HC.out | refine Chg.setCell ?_ (fun h => absurd h (by simp)) _)⟩
  · have fin : scoreOf l = (⟨0, 0, 0, 0⟩, 3) := by unfold scoreOf; rw [h1]; rfl
    rw [fin]
    have hsum := hs (w.alloc (.cells #[.int .u64 0, .int .u64 0, .int .u64 0, .int .u64 0] 31)) ((Chg.refl _ _).alloc _)
    rw [h1] at hsum
    unfold SumPost at hsum
    clear h1 hs hr hu fin
    go_enter Try.func8, Try.ntmps8
    go_wp2_with (go_at_call 15; refine hsum.mono ?_; rintro e w' ⟨rfl, rfl⟩)
    exact bodyPost_ret (v := .tuple #[.agg #[.int .u64 0, .int .u64 0, .int .u64 0, .int .u64 0], .int .i64 3]) (by simp [results, Try.results8, go_sem]) rfl ⟨rfl, by repeat (first | exact Chg.refl _ _ | apply Chg.drew | apply Chg.alloc | (refine Chg.setCell ?_ (fun h => absurd h (by simp)) _))⟩
end Go.Proofs.Ytpcebifdlgkccaa
