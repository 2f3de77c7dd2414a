/- Where an era stands in a row of chunks (slices.BinarySearchFunc). -/
import Derived.Test.YtpndkelbchjkiaaLd
set_option linter.unusedVariables false
set_option linter.unusedSimpArgs false
namespace Go.Proofs.Ytpndkelbchjkiaa
open Go.RowKit Go.Ps
def cmpE (x : Int × Int) (era : Int) : Int := if x.2 < era then -1 else if era < x.2 then 1 else 0
set_option maxRecDepth 20000 in
set_option maxHeartbeats 1000000 in
theorem cmp34 (x : Int × Int) (era : Int) (W : World) : Calls Try.prog 34 #[aggC x, .int .i64 era] W fun e W' => e = .returned (.int .i64 (cmpE x era)) ∧ Chg (fun _ => False) W W' := by
  obtain ⟨x1, x2⟩ := x
  unfold cmpE aggC
  simp only
  have hC : Chg (fun _ => False) W (W.alloc (.cells #[.int .u64 x1, .int .i64 x2] 38)) := (Chg.refl _ W).alloc _
  have HC := Lib.hid hC
  clear hC
  by_cases h1 : x2 < era
  · rw [if_pos h1]
    go_enter Try.func34, Try.ntmps34
    go_wp2
    go_ret
    exact ⟨rfl, HC.out⟩
  · rw [if_neg h1]
    by_cases h2 : era < x2
    · rw [if_pos h2]
      go_enter Try.func34, Try.ntmps34
      go_wp2
      go_ret
      exact ⟨rfl, HC.out⟩
    · rw [if_neg h2]
      go_enter Try.func34, Try.ntmps34
      go_wp2
      go_ret
      exact ⟨rfl, HC.out⟩
/-- Eras rise. -/
def Srt (l : List (Int × Int)) : Prop := ∀ i j, i < j → j < l.length → (l.getD i d0).2 < (l.getD j d0).2
def Fnd (l : List (Int × Int)) (era : Int) (k : Nat) : Prop := k ≤ l.length ∧ (∀ t, t < k → (l.getD t d0).2 < era) ∧ ∀ t, k ≤ t → t < l.length → era ≤ (l.getD t d0).2
set_option maxRecDepth 20000 in
set_option maxHeartbeats 4000000 in
theorem search_any {w : World} {v : Value} {l : List (Int × Int)} (hO : OwnF w 38 2 fch v l) (hl : l.length ≤ 1000) (hs : Srt l) (era : Int) :
    Calls Try.prog 33 #[v, .int .i64 era, .func (.func 34) #[] #[]] w fun e w' => ∃ k : Nat, Fnd l era k ∧ e = .returned (.tuple #[.int .i64 k, .bool (decide (k < l.length ∧ (l.getD k d0).2 = era))]) ∧ Chg (fun _ => False) w w' := by
  obtain ⟨A, c, rfl, hcap, _⟩ := hO.form
  obtain ⟨n, hn⟩ : ∃ n, n = l.length := ⟨_, rfl⟩
  have HH := Lib.hid (⟨hn, hO, hs⟩ : _ ∧ _ ∧ _)
  rw [← hn] at hl hcap ⊢
  clear hn hO hs hcap
  go_enter Try.func33, Try.ntmps33
  go_wp2
  go_loopw [9, 10] (fun a b wr => ∃ i j : Nat, i ≤ j ∧ j ≤ n ∧ a = .int .i64 i ∧ b = .int .i64 j ∧ Hid ((∀ t, t < i → (l.getD t d0).2 < era) ∧ (∀ t, j ≤ t → t < n → era ≤ (l.getD t d0).2) ∧ Chg (fun _ => False) w wr)) (fun a b _ => (intOf b - intOf a).toNat)
  case atStart => exact ⟨0, n, by omega, Nat.le_refl _, rfl, rfl, Lib.hid ⟨fun t ht => by omega, fun t h1 h2 => by omega, Chg.refl _ _⟩⟩
  case round =>
    obtain ⟨i, j, hij, hjn, rfl, rfl, HI⟩ := hrel
    by_cases hlt : i < j
    · obtain ⟨h, hh⟩ : ∃ h : Nat, ((i : Int) + (j : Int)) / 2 = (h : Int) := ⟨(i + j) / 2, by omega⟩
      have h1 : i ≤ h := by omega
      have h2 : h < j := by omega
      have h3 : h < n := by omega
      obtain ⟨hn, hO, hs⟩ := HH.out
      obtain ⟨b, c2, e1, e2, e3, c0, c1, _, _⟩ := ownF_cells (hO.chg HI.out.2.2 (fun _ _ => id)) (k := h) (by omega)
      simp only [Value.slice.injEq] at e1
      obtain ⟨rfl, -, rfl⟩ := e1
      have hc := cmp34 (l.getD h d0) era wr
      unfold aggC at hc
      obtain ⟨x, hx⟩ : ∃ x, x = l.getD h d0 := ⟨_, rfl⟩
      rw [← hx] at hc c0 c1
      have HX := Lib.hid hx
      clear hn hO hs hx e2 e3
      by_cases hp : x.2 < era
      · have hv : cmpE x era = -1 := by unfold cmpE; rw [if_pos hp]
        rw [hv] at hc
        have HP := Lib.hid hp
        clear hv hp
        go_wp2_with fail
        refine hc.mono ?_
        rintro e w2 ⟨rfl, hC⟩
        have HC := Lib.hid hC
        clear hC hc c0 c1
        go_wp2
        go_roundw
        case rel =>
          refine ⟨h + 1, j, by omega, hjn, by go_num, rfl, Lib.hid ⟨fun t ht => ?_, HI.out.2.1, HI.out.2.2.trans HC.out (fun _ _ h => h)⟩⟩
          by_cases e : t = h
          · rw [e, ← HX.out]; exact HP.out
          · have := HH.out.2.2 t h (by omega) (by have := HH.out.1; omega)
            have hp := HP.out
            rw [HX.out] at hp
            omega
        case measure => simp [intOf]; omega
      · have hv : 0 ≤ cmpE x era := by unfold cmpE; rw [if_neg hp]; split <;> omega
        obtain ⟨r, hr⟩ : ∃ r, r = cmpE x era := ⟨_, rfl⟩
        rw [← hr] at hc hv
        have hv2 : ¬ r < 0 := by omega
        have HP := Lib.hid hp
        clear hv hp hr
        go_wp2_with fail
        refine hc.mono ?_
        rintro e w2 ⟨rfl, hC⟩
        have HC := Lib.hid hC
        clear hC hc c0 c1
        go_wp2
        go_roundw
        case rel =>
          refine ⟨i, h, by omega, by omega, rfl, rfl, Lib.hid ⟨HI.out.1, fun t ht htn => ?_, HI.out.2.2.trans HC.out (fun _ _ h => h)⟩⟩
          have hp := HP.out
          rw [HX.out] at hp
          by_cases e : t = h
          · rw [e]; omega
          · have := HH.out.2.2 h t (by omega) (by have := HH.out.1; omega)
            omega
        case measure => simp [intOf]; omega
    · obtain rfl : i = j := by omega
      by_cases hin : i < n
      · obtain ⟨hn, hO, hs⟩ := HH.out
        obtain ⟨b, c2, e1, e2, e3, c0, c1, _, _⟩ := ownF_cells (hO.chg HI.out.2.2 (fun _ _ => id)) (k := i) (by omega)
        simp only [Value.slice.injEq] at e1
        obtain ⟨rfl, -, rfl⟩ := e1
        have hc := cmp34 (l.getD i d0) era wr
        unfold aggC at hc
        obtain ⟨x, hx⟩ : ∃ x, x = l.getD i d0 := ⟨_, rfl⟩
        rw [← hx] at hc c0 c1
        have HX := Lib.hid hx
        obtain ⟨r, hr⟩ : ∃ r, cmpE x era = r := ⟨_, rfl⟩
        rw [hr] at hc
        have HR := Lib.hid hr
        clear hn hO hs hx e2 e3 hr
        go_wp2_with fail
        refine hc.mono ?_
        rintro e w2 ⟨rfl, hC⟩
        have HC := Lib.hid hC
        clear hC hc c0 c1
        go_wp2
        go_ret2
        have hn := HH.out.1
        have hge := HI.out.2.1 i (Nat.le_refl _) hin
        have hr := HR.out
        rw [HX.out] at hr
        have hb : (r == 0) = decide (i < n ∧ (l.getD i d0).2 = era) := by
          rw [Bool.eq_iff_iff, ← hr]
          unfold cmpE
          simp only [beq_iff_eq, decide_eq_true_eq]
          constructor
          · intro h
            refine ⟨hin, ?_⟩
            split at h
            · omega
            · split at h <;> omega
          · rintro ⟨_, h⟩
            rw [if_neg (by omega), if_neg (by omega)]
        refine ⟨i, ⟨by omega, HI.out.1, fun t h1 h2 => HI.out.2.1 t h1 (by omega)⟩, by rw [← hb]; rfl, HI.out.2.2.trans HC.out (fun _ _ h => h)⟩
      · go_wp2
        go_ret2
        have hn := HH.out.1
        have hb : false = decide (i < n ∧ (l.getD i d0).2 = era) := by simp [hin]
        refine ⟨i, ⟨by omega, HI.out.1, fun t h1 h2 => HI.out.2.1 t h1 (by omega)⟩, by rw [← hb]; rfl, HI.out.2.2⟩
end Go.Proofs.Ytpndkelbchjkiaa
