/- Scores: Better, and the document's. -/
import Derived.Test.YtpcebifdlgkccaaProg
import Derived.Test.YtpcebifdlgkccaaK3
import Derived.Outline
import Derived.RegionTactic
import Derived.ChangeAlike
import Derived.Deep.QuietTactic
import Derived.BigQuiet
import Derived.StillTailTactics
import Derived.Deep.RegionHeld3
import Derived.OpenShut
set_option linter.unusedVariables false
set_option linter.unusedSimpArgs false
namespace Go.Proofs.Ytpcebifdlgkccaa
open Go.RowKit Go.Ps

def U64 (n : Int) : Prop := 0 ≤ n ∧ n < 18446744073709551616
def cmpI (a b : Int) : Int := if a < b then -1 else if b < a then 1 else 0
theorem cmpI_zero {a b : Int} : cmpI a b = 0 ↔ a = b := by
  unfold cmpI
  (repeat' split) <;> omega
theorem cmpI_pos {a b : Int} : 0 < cmpI a b ↔ b < a := by
  unfold cmpI
  (repeat' split) <;> omega
theorem nan_any (a : Int) (w : World) : Calls Try.prog 28 #[.int .u64 a] w fun e w' => e = .returned (.bool false) ∧ w = w' := by
  go_enter Try.func28, Try.ntmps28
  go_wp2
  go_ret
  exact ⟨by simp, rfl⟩
theorem compare_any (a b : Int) (w : World) : Calls Try.prog 22 #[.int .u64 a, .int .u64 b] w fun e w' => e = .returned (.int .i64 (cmpI a b)) ∧ w = w' := by
  have hn := fun x => nan_any x w
  by_cases h1 : a < b
  · have e : cmpI a b = -1 := by unfold cmpI; rw [if_pos h1]
    rw [e]
    go_enter Try.func22, Try.ntmps22
    go_wp2_with (go_at_call 28; refine (hn _).mono ?_; rintro e w' ⟨rfl, rfl⟩)
    go_ret
    exact ⟨rfl, rfl⟩
  · by_cases h2 : b < a
    · have e : cmpI a b = 1 := by unfold cmpI; rw [if_neg h1, if_pos h2]
      rw [e]
      go_enter Try.func22, Try.ntmps22
      go_wp2_with (go_at_call 28; refine (hn _).mono ?_; rintro e w' ⟨rfl, rfl⟩)
      go_ret
      exact ⟨rfl, rfl⟩
    · have e : cmpI a b = 0 := by unfold cmpI; rw [if_neg h1, if_neg h2]
      rw [e]
      go_enter Try.func22, Try.ntmps22
      go_wp2_with (go_at_call 28; refine (hn _).mono ?_; rintro e w' ⟨rfl, rfl⟩)
      go_ret
      exact ⟨rfl, rfl⟩
theorem compare_flip (a b : Int) (w : World) : Calls Try.prog 22 #[.int .u64 a, .int .u64 b] w fun e w' => e = .returned (.int .i64 (cmpI a b)) ∧ w' = w := (compare_any a b w).mono fun _ _ ⟨h, k⟩ => ⟨h, k.symm⟩
def orI : List Int → Int
  | [] => 0
  | x :: l => if x = 0 then orI l else x
theorem or_any (l : List Int) (w : World) (A : Option Addr) (c : Nat) (hr : ReadsI w .i64 A l) (hl : l.length ≤ 1000000) : Calls Try.prog 21 #[.slice A l.length c] w fun e w' => e = .returned (.int .i64 (orI l)) ∧ w = w' := by
  have HR := Lib.hid hr
  clear hr
  obtain ⟨T, hT⟩ : ∃ T, T = orI l := ⟨_, rfl⟩
  rw [← hT]
  have HT := Lib.hid hT
  clear hT
  go_enter Try.func21, Try.ntmps21
  go_wp2
  go_loop [8] (fun i => ∃ k : Nat, k ≤ l.length ∧ i = .int .i64 k ∧ T = orI (l.drop k)) (fun i => l.length - (intOf i).toNat)
  case atStart => exact ⟨0, by omega, rfl, HT.out⟩
  case round =>
    obtain ⟨k, hk, rfl, hT⟩ := hrel
    by_cases hk2 : k < l.length
    · obtain ⟨g, o, rfl, hx⟩ := HR.out.plain (by rintro rfl; simp at hk2)
      have hcell := hx k hk2
      have hd : l.drop k = l.getD k 0 :: l.drop (k + 1) := by
        rw [List.drop_eq_getElem_cons hk2]
        congr 1
        rw [List.getD_eq_getElem?_getD, List.getElem?_eq_getElem hk2]
        rfl
      obtain ⟨x, hxe⟩ : ∃ x, x = l.getD k 0 := ⟨_, rfl⟩
      rw [hd, ← hxe, orI] at hT
      rw [← hxe] at hcell
      by_cases h0 : x = 0
      · rw [if_pos h0] at hT
        have HT := Lib.hid hT
        subst h0
        clear hT hd hxe hx
        go_wp2
        go_round
        case rel => exact ⟨k + 1, by omega, by go_num, HT.out⟩
        case measure => simp [intOf]; omega
      · rw [if_neg h0] at hT
        subst hT
        clear hd hxe hx HT
        go_wp2
        go_ret
        exact ⟨rfl, rfl⟩
    · have ej : k = l.length := by omega
      subst ej
      rw [List.drop_of_length_le (Nat.le_refl _)] at hT
      subst hT
      clear HT
      go_wp2
      go_ret
      exact ⟨rfl, rfl⟩

theorem heap_at (w : World) (o : Obj) (n : Nat) (h : n = w.heap.size) : (w.alloc o).heap[n]? = some o := by subst h; exact heap_alloc_at w o
structure Sc where
  min : Int
  sum : Int
  high : Int
  low : Int
def Sc.v (s : Sc) : Value := .agg #[.int .u64 s.min, .int .u64 s.sum, .int .u64 s.high, .int .u64 s.low]
def bet (a b : Sc) : Bool := decide (0 < orI [cmpI a.min b.min, cmpI a.sum b.sum, cmpI b.high a.high, cmpI b.low a.low])
def BetPost (a b : Sc) (w : World) (e : Ending) (w' : World) : Prop := e = .returned (.bool (bet a b)) ∧ Chg (fun _ => False) w w'
set_option maxHeartbeats 1000000 in
theorem better_any (a b : Sc) (w : World) : Calls Try.prog 11 #[a.v, b.v] w (BetPost a b w) := by
  obtain ⟨a0, a1, a2, a3⟩ := a
  obtain ⟨b0, b1, b2, b3⟩ := b
  have hc := fun x y W => compare_any x y W
  obtain ⟨c0, h0⟩ : ∃ c, c = cmpI a0 b0 := ⟨_, rfl⟩
  obtain ⟨c1, h1⟩ : ∃ c, c = cmpI a1 b1 := ⟨_, rfl⟩
  obtain ⟨c2, h2⟩ : ∃ c, c = cmpI b2 a2 := ⟨_, rfl⟩
  obtain ⟨c3, h3⟩ : ∃ c, c = cmpI b3 a3 := ⟨_, rfl⟩
  have k0 := fun W => compare_flip a0 b0 W
  have k1 := fun W => compare_flip a1 b1 W
  have k2 := fun W => compare_flip b2 a2 W
  have k3 := fun W => compare_flip b3 a3 W
  rw [← h0] at k0
  rw [← h1] at k1
  rw [← h2] at k2
  rw [← h3] at k3
  have fin : Ending.returned (.bool (decide (0 < orI [c0, c1, c2, c3]))) = .returned (.bool (bet ⟨a0, a1, a2, a3⟩ ⟨b0, b1, b2, b3⟩)) := by unfold bet; rw [h0, h1, h2, h3]
  have FIN := Lib.hid fin
  clear fin h0 h1 h2 h3 hc
  unfold Sc.v
  go_enter Try.func11, Try.ntmps11
  go_wp2_with fail

  refine wp_region_still_tail 20 (by kernel_rfl) (by kernel_rfl) ?_
  have hC : Chg (fun _ => False) w (World.drew ((w.alloc (.cells #[.int .u64 a0, .int .u64 a1, .int .u64 a2, .int .u64 a3] 31)).alloc (.cells #[.int .u64 b0, .int .u64 b1, .int .u64 b2, .int .u64 b3] 31))) := (((Chg.refl _ w).alloc _).alloc _).drew
  change wpStill _ _ (World.drew ((w.alloc (.cells #[.int .u64 a0, .int .u64 a1, .int .u64 a2, .int .u64 a3] 31)).alloc (.cells #[.int .u64 b0, .int .u64 b1, .int .u64 b2, .int .u64 b3] 31))) (fun a' => wpList _ _ _ _ a' (World.drew ((w.alloc (.cells #[.int .u64 a0, .int .u64 a1, .int .u64 a2, .int .u64 a3] 31)).alloc (.cells #[.int .u64 b0, .int .u64 b1, .int .u64 b2, .int .u64 b3] 31)))) _ _
  simp only [List.take_succ_cons, List.take_zero, List.drop_succ_cons, List.drop_zero]
  repeat still_step
  still_call (k0 _)
  repeat still_step
  still_call (k1 _)
  repeat still_step
  still_call (k2 _)
  repeat still_step
  still_call (k3 _)
  repeat still_step
  refine wpStill_nil ?_
  go_wp2_with fail
  refine (or_any [c0, c1, c2, c3] _ _ 4 ?hr (by simp)).mono ?_
  case hr => exact ReadsI.of_block (t := 3) (fr := (0, 0)) (heap_at _ _ _ (by simp))
  rintro e w' ⟨rfl, rfl⟩
  go_wp2
  go_ret
  exact ⟨FIN.out, ((((Chg.refl _ w).alloc _).alloc _).alloc _).drew⟩
theorem bet0 {a0 a1 a2 a3 b0 b1 b2 b3 : Int} (h : ¬ a0 = b0) : bet ⟨a0, a1, a2, a3⟩ ⟨b0, b1, b2, b3⟩ = decide (b0 < a0) := by
  unfold bet
  simp only [orI]
  exact decide_eq_decide.2 (by rw [if_neg (fun e => h (cmpI_zero.1 e))]; exact cmpI_pos)
theorem bet1 {a0 a1 a2 a3 b1 b2 b3 : Int} (h : ¬ a1 = b1) : bet ⟨a0, a1, a2, a3⟩ ⟨a0, b1, b2, b3⟩ = decide (b1 < a1) := by
  unfold bet
  simp only [orI]
  exact decide_eq_decide.2 (by rw [if_pos (cmpI_zero.2 rfl), if_neg (fun e => h (cmpI_zero.1 e))]; exact cmpI_pos)
theorem bet2 {a0 a1 a2 a3 b2 b3 : Int} (h : ¬ a2 = b2) : bet ⟨a0, a1, a2, a3⟩ ⟨a0, a1, b2, b3⟩ = decide (a2 < b2) := by
  unfold bet
  simp only [orI]
  exact decide_eq_decide.2 (by rw [if_pos (cmpI_zero.2 rfl), if_pos (cmpI_zero.2 rfl), if_neg (fun e => h (cmpI_zero.1 e).symm)]; exact cmpI_pos)
theorem bet3 {a0 a1 a2 a3 b3 : Int} : bet ⟨a0, a1, a2, a3⟩ ⟨a0, a1, a2, b3⟩ = decide (a3 < b3) := by
  unfold bet
  simp only [orI]
  refine decide_eq_decide.2 ?_
  rw [if_pos (cmpI_zero.2 rfl), if_pos (cmpI_zero.2 rfl), if_pos (cmpI_zero.2 rfl)]
  split
  · rename_i h; have := cmpI_zero.1 h; omega
  · exact cmpI_pos
theorem ret_bool {a b : Bool} (h : b = a) : Ending.returned (.bool a) = .returned (.bool b) := by rw [h]
set_option maxHeartbeats 1000000 in
theorem rbetter_any (a b : Sc) (w : World) : Calls Try.prog 12 #[a.v, b.v] w (BetPost a b w) := by
  obtain ⟨a0, a1, a2, a3⟩ := a
  obtain ⟨b0, b1, b2, b3⟩ := b
  unfold Sc.v
  by_cases h0 : a0 = b0
  · subst h0
    by_cases h1 : a1 = b1
    · subst h1
      by_cases h2 : a2 = b2
      · subst h2
        go_enter Try.func12, Try.ntmps12
        go_wp2
        go_ret
        exact ⟨ret_bool bet3, (((Chg.refl _ w).alloc _).alloc _)⟩
      · have FIN := Lib.hid (ret_bool (bet2 (a0 := a0) (a1 := a1) (a3 := a3) (b3 := b3) h2))
        go_enter Try.func12, Try.ntmps12
        go_wp2
        go_ret
        exact ⟨FIN.out, (((Chg.refl _ w).alloc _).alloc _)⟩
    · have FIN := Lib.hid (ret_bool (bet1 (a0 := a0) (a2 := a2) (a3 := a3) (b2 := b2) (b3 := b3) h1))
      go_enter Try.func12, Try.ntmps12
      go_wp2
      go_ret
      exact ⟨FIN.out, (((Chg.refl _ w).alloc _).alloc _)⟩
  · have FIN := Lib.hid (ret_bool (bet0 (a1 := a1) (a2 := a2) (a3 := a3) (b1 := b1) (b2 := b2) (b3 := b3) h0))
    go_enter Try.func12, Try.ntmps12
    go_wp2
    go_ret
    exact ⟨FIN.out, (((Chg.refl _ w).alloc _).alloc _)⟩
end Go.Proofs.Ytpcebifdlgkccaa
