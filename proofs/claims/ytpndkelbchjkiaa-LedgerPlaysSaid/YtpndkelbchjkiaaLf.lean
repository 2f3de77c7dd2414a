/- find: which accounts there are. -/
import Derived.Test.YtpndkelbchjkiaaLm
set_option linter.unusedVariables false
set_option linter.unusedSimpArgs false
namespace Go.Proofs.Ytpndkelbchjkiaa
open Go.RowKit Go.Ps
/-- Where the first one lies that is none (from k on), or -1. -/
def bidx (n : Nat) : Int → List Int → Int
  | _, [] => -1
  | k, x :: l => if x < 0 ∨ (n : Int) ≤ x then k else bidx n (k + 1) l
theorem bidx_one (n : Nat) (x : Int) : bidx n 0 [x] = if x < 0 ∨ (n : Int) ≤ x then 0 else -1 := rfl
theorem find1_any (id : Int) (p : Addr) (g n c : Nat) (A : Option Addr) (w : World) (h1 : w.cell? p = some (.pointer (some ⟨g, 0, none⟩))) (h2 : w.cell? ⟨g, 0, none⟩ = some (.slice A n c)) :
    Calls Try.prog 58 #[.int .i64 id, .pointer (some p)] w fun e w' => e = .returned (.bool (decide (id < 0 ∨ (n : Int) ≤ id))) ∧ w = w' := by
  by_cases h0 : id < 0
  · go_enter Try.func58, Try.ntmps58
    go_wp2
    go_ret
    exact ⟨by simp [h0], rfl⟩
  · go_enter Try.func58, Try.ntmps58
    go_wp2
    go_ret
    refine ⟨?_, rfl⟩
    rw [show (decide (id < 0) || decide ((n : Int) ≤ id)) = decide ((n : Int) ≤ id) by apply Bool.eq_iff_iff.2; simp; omega]
    rfl
set_option maxHeartbeats 1000000 in
theorem index66_any (l : List Int) (A B : Option Addr) (p : Addr) (g n c c2 : Nat) (w : World) (h1 : w.cell? p = some (.pointer (some ⟨g, 0, none⟩))) (h2 : w.cell? ⟨g, 0, none⟩ = some (.slice A n c)) (hr : ReadsI w .i64 B l) (hl : l.length ≤ 1000) :
    Calls Try.prog 66 #[.slice B l.length c2, .func (.func 58) #[] #[.pointer (some p)]] w fun e w' => e = .returned (.int .i64 (bidx n 0 l)) ∧ w = w' := by
  have hf := fun id => find1_any id p g n c A w h1 h2
  obtain ⟨T, hT⟩ : ∃ T, T = bidx n 0 l := ⟨_, rfl⟩
  rw [← hT]
  have HR := Lib.hid hr
  have HT := Lib.hid hT
  clear hr hT h1 h2
  go_enter Try.func66, Try.ntmps66
  go_wp2
  go_loop [5, 8] (fun a i => ∃ (k : Nat), k ≤ l.length ∧ i = .int .i64 k ∧ T = bidx n k (l.drop k)) (fun _ i => l.length - (intOf i).toNat)
  case atStart => exact ⟨0, by omega, rfl, HT.out⟩
  case round =>
    obtain ⟨k, hk, rfl, hT⟩ := hrel
    by_cases hk2 : k < l.length
    · obtain ⟨g2, o, rfl, hx⟩ := HR.out.plain (by rintro rfl; simp at hk2)
      have hcell := hx k hk2
      have hd := drop_getD l k hk2
      obtain ⟨x, hxe⟩ : ∃ x, x = l.getD k 0 := ⟨_, rfl⟩
      rw [hd, ← hxe, bidx] at hT
      rw [← hxe] at hcell
      by_cases h0 : x < 0 ∨ (n : Int) ≤ x
      · rw [if_pos h0] at hT
        have hdx : decide (x < 0 ∨ (n : Int) ≤ x) = true := by simpa using h0
        have hfx := hf x
        rw [hdx] at hfx
        have HT := Lib.hid hT
        clear hT hd hxe hx h0 hdx
        go_wp2_with fail
        refine hfx.mono ?_
        rintro e w' ⟨rfl, rfl⟩
        go_wp2
        go_ret
        rw [HT.out]
        exact ⟨rfl, rfl⟩
      · rw [if_neg h0] at hT
        have hdx : decide (x < 0 ∨ (n : Int) ≤ x) = false := by simpa using h0
        have hfx := hf x
        rw [hdx] at hfx
        have HT := Lib.hid hT
        clear hT hd hxe hx h0 hdx
        go_wp2_with fail
        refine hfx.mono ?_
        rintro e w' ⟨rfl, rfl⟩
        go_wp2
        go_round
        case rel => exact ⟨k + 1, by omega, by go_num, by simpa using HT.out⟩
        case measure => simp [intOf]; omega
    · have ej : k = l.length := by omega
      subst ej
      rw [List.drop_of_length_le (Nat.le_refl _)] at hT
      have HT := Lib.hid hT
      clear hT
      go_wp2
      go_ret
      rw [HT.out]
      exact ⟨rfl, rfl⟩
theorem contains57_any (l : List Int) (A B : Option Addr) (p : Addr) (g n c c2 : Nat) (w : World) (h1 : w.cell? p = some (.pointer (some ⟨g, 0, none⟩))) (h2 : w.cell? ⟨g, 0, none⟩ = some (.slice A n c)) (hr : ReadsI w .i64 B l) (hl : l.length ≤ 1000) :
    Calls Try.prog 57 #[.slice B l.length c2, .func (.func 58) #[] #[.pointer (some p)]] w fun e w' => e = .returned (.bool (decide (0 ≤ bidx n 0 l))) ∧ w = w' := by
  have hi := index66_any l A B p g n c c2 w h1 h2 hr hl
  obtain ⟨T, hT⟩ : ∃ T, T = bidx n 0 l := ⟨_, rfl⟩
  obtain ⟨m, hm⟩ : ∃ m, m = l.length := ⟨_, rfl⟩
  rw [← hT, ← hm] at hi
  rw [← hT, ← hm]
  clear hr h1 h2 hT hm hl
  go_enter Try.func57, Try.ntmps57
  go_wp2_with fail
  refine hi.mono ?_
  rintro e w' ⟨rfl, rfl⟩
  by_cases h0 : 0 ≤ T
  · go_wp2
    go_ret
    exact ⟨by simp [h0], rfl⟩
  · go_wp2
    go_ret
    exact ⟨by simp [h0], rfl⟩
theorem find_any (l : List Int) (A B : Option Addr) (g n c c2 : Nat) (w : World) (h2 : w.cell? ⟨g, 0, none⟩ = some (.slice A n c)) (hr : ReadsI w .i64 B l) (hl : l.length ≤ 1000) :
    Calls Try.prog 31 #[.pointer (some ⟨g, 0, none⟩), .slice B l.length c2] w fun e w' => e = .returned (.int .i64 (if 0 ≤ bidx n 0 l then 5 else 0)) ∧ Chg (fun _ => False) w w' := by
  have hC : Chg (fun _ => False) w (w.alloc (.cells #[.pointer (some ⟨g, 0, none⟩)] 26)) := (Chg.refl _ w).alloc _
  have hc := contains57_any l A B ⟨w.heap.size, 0, none⟩ g n c c2 (w.alloc (.cells #[.pointer (some ⟨g, 0, none⟩)] 26)) (cell_of (heap_alloc_at w _) 0 rfl) (chg_cell hC h2 (fun h => h)) (hr.chg hC (fun _ _ => id)) hl
  have HC := Lib.hid hC
  obtain ⟨T, hT⟩ : ∃ T, T = bidx n 0 l := ⟨_, rfl⟩
  obtain ⟨m, hm⟩ : ∃ m, m = l.length := ⟨_, rfl⟩
  rw [← hT, ← hm] at hc
  rw [← hT, ← hm]
  clear hr h2 hC hT hm hl
  by_cases h0 : 0 ≤ T
  · have hd : decide (0 ≤ T) = true := by simpa using h0
    rw [hd] at hc
    go_enter Try.func31, Try.ntmps31
    go_wp2_with fail
    refine hc.mono ?_
    rintro e w' ⟨rfl, rfl⟩
    go_wp2
    go_ret
    exact ⟨by simp [h0], HC.out⟩
  · have hd : decide (0 ≤ T) = false := by simpa using h0
    rw [hd] at hc
    go_enter Try.func31, Try.ntmps31
    go_wp2_with fail
    refine hc.mono ?_
    rintro e w' ⟨rfl, rfl⟩
    go_wp2
    go_ret
    exact ⟨by simp [h0], HC.out⟩
theorem sub_any (a b : Int) (w : World) (ha : U64 a) (hb : U64 b) : Calls Try.prog 59 #[.int .u64 a, .int .u64 b] w fun e w' => e = .returned (.tuple (if a < b then #[.int .u64 0, .int .i64 8] else #[.int .u64 (a - b), .int .i64 0])) ∧ w = w' := by
  obtain ⟨ha1, ha2⟩ := ha
  obtain ⟨hb1, hb2⟩ := hb
  by_cases h0 : a < b
  · rw [if_pos h0]
    go_enter Try.func59, Try.ntmps59
    go_wp2
    go_ret2
    exact ⟨rfl, rfl⟩
  · rw [if_neg h0]
    go_enter Try.func59, Try.ntmps59
    go_wp2
    go_ret2
    exact ⟨rfl, rfl⟩
end Go.Proofs.Ytpndkelbchjkiaa
