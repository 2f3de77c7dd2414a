/- The document's bags: Rising, Bag. -/
import Derived.Test.YthoagpagnldmeaaVs
set_option linter.unusedVariables false
set_option linter.unusedSimpArgs false
namespace Go.Proofs.Ythoagpagnldmeaa.V
open Go.RowKit Go.Ps
def RisingPost (T : List Int) (w : World) (e : Ending) (w' : World) : Prop := ∃ b, e = .returned (.bool b) ∧ Chg (fun _ => False) w w' ∧ (b = true ↔ Ris T ∧ T.length ≤ 100)
set_option maxRecDepth 20000 in
set_option maxHeartbeats 4000000 in
theorem rising_any {w : World} {A : Option Addr} {T : List Int} (c : Nat) (hT : T.length ≤ 1000) (hr : ReadsI w .u64 A T) :
    Calls Try.prog 38 #[.slice A T.length c] w (RisingPost T w) := by
  obtain ⟨n, hn⟩ : ∃ n, n = T.length := ⟨_, rfl⟩
  have HH := Lib.hid (⟨hn, hr⟩ : _ ∧ _)
  rw [← hn] at hT ⊢
  clear hn hr
  go_enter Try.func38, Try.ntmps38
  go_wp2
  go_loopw [6] (fun i wr => ∃ k : Nat, i = .int .i64 k ∧ k ≤ n ∧ k ≤ 100 ∧ Hid ((∀ j, 0 < j → j < k → T.getD (j - 1) 0 < T.getD j 0) ∧ Chg (fun _ => False) w wr)) (fun i _ => n - (intOf i).toNat)
  case atStart => exact ⟨0, rfl, Nat.zero_le _, by omega, Lib.hid ⟨fun j h1 h2 => by omega, Chg.refl _ _⟩⟩
  case round =>
    obtain ⟨k, rfl, hk, hk1, HI⟩ := hrel
    by_cases hkn : k < n
    · by_cases h100 : 100 ≤ k
      · have h100' : (100 : Int) ≤ k := by omega
        go_wp2_with fail
        refine J.wp_region_seq (fun W => True ∧ True) [(0, 0), (1, 0), (2, 0), (3, 0), (4, 0), (5, 0), (6, 0), (7, 0), (8, 0), (9, 0), (10, 0), (11, 0), (12, 0), (13, 0), (14, 0), (15, 0), (16, 0), (17, 0)] (by kernel_rfl) (by kernel_rfl) (by kernel_rfl) ⟨trivial, trivial⟩ ?_
        iterate 3 (apply J.look (by rfl) (by rfl); (focus (intro W hW; obtain ⟨hW1, hW2⟩ := hW; go_simp; exact HasV.val rfl)); simp only [Act.put, List.setIfInBounds_toArray, List.set_cons_zero, List.set_cons_succ])
        iterate 14 (apply J.pass (by rfl) (by rfl); simp only [Act.put, List.setIfInBounds_toArray, List.set_cons_zero, List.set_cons_succ])
        iterate 1 (apply J.look (by rfl) (by rfl); (focus (intro W hW; obtain ⟨hW1, hW2⟩ := hW; go_simp; exact HasV.val rfl)); simp only [Act.put, List.setIfInBounds_toArray, List.set_cons_zero, List.set_cons_succ])
        refine J.fin ?_
        go_wp2
        go_ret
        refine ⟨false, rfl, (HI.out.2).drew, (fun h => by cases h), fun h => ?_⟩
        have h2 := h.2
        rw [← HH.out.1] at h2
        omega
      · have h100' : ¬ (100 : Int) ≤ k := by omega
        by_cases hk0 : k = 0
        · subst hk0
          go_wp2_with fail
          refine J.wp_region_seq (fun W => True ∧ True) [(0, 0), (1, 0), (2, 0), (3, 0), (4, 0), (5, 0), (6, 0), (7, 0), (8, 0), (9, 0), (10, 0), (11, 0), (12, 0), (13, 0), (14, 0), (15, 0), (16, 0), (17, 0)] (by kernel_rfl) (by kernel_rfl) (by kernel_rfl) ⟨trivial, trivial⟩ ?_
          iterate 6 (apply J.look (by rfl) (by rfl); (focus (intro W hW; obtain ⟨hW1, hW2⟩ := hW; go_simp; exact HasV.val rfl)); simp only [Act.put, List.setIfInBounds_toArray, List.set_cons_zero, List.set_cons_succ])
          iterate 10 (apply J.pass (by rfl) (by rfl); simp only [Act.put, List.setIfInBounds_toArray, List.set_cons_zero, List.set_cons_succ])
          iterate 2 (apply J.look (by rfl) (by rfl); (focus (intro W hW; obtain ⟨hW1, hW2⟩ := hW; go_simp; exact HasV.val rfl)); simp only [Act.put, List.setIfInBounds_toArray, List.set_cons_zero, List.set_cons_succ])
          refine J.fin ?_
          go_wp2
          go_roundw
          case rel => exact ⟨1, by go_num, by omega, by omega, Lib.hid ⟨fun j h1 h2 => by omega, (HI.out.2).drew⟩⟩
          case measure => simp [intOf]; omega
        · obtain ⟨hn, hr⟩ := HH.out
          obtain ⟨g, o, rfl, hc⟩ := (hr.chg HI.out.2 (fun _ _ f => f)).plain (by intro e; rw [e] at hn; simp at hn; omega)
          have h0 := hc k (by omega)
          obtain ⟨x, hx⟩ : ∃ x, x = T.getD k 0 := ⟨_, rfl⟩
          rw [← hx] at h0
          have HX := Lib.hid hx
          have h1 := hc (k - 1) (by omega)
          obtain ⟨y, hy⟩ : ∃ y, y = T.getD (k - 1) 0 := ⟨_, rfl⟩
          rw [← hy] at h1
          have HY := Lib.hid hy
          obtain ⟨p, hp⟩ : ∃ p, p = k - 1 := ⟨_, rfl⟩
          have hpk : k = p + 1 := by omega
          rw [← hp] at h1
          subst hpk
          have HP := Lib.hid hp
          have HE := Lib.hid (⟨by simp; omega, by omega, by rw [wrap_i (by omega) (by omega)], by omega⟩ : decide ((100 : Int) ≤ (p : Int) + 1) = false ∧ (0 : Int) < (p : Int) + 1 ∧ IntKind.i64.wrap (p : Int) = p ∧ (p : Int) < n)
          have hdr := (HI.out.2).drew
          have HDR := Lib.hid hdr
          clear hc hr hn hx hy hp hdr
          by_cases hxy : x ≤ y
          · have HXY := Lib.hid hxy
            go_wp2_with fail
            refine J.wp_region_seq (fun W => W.cell? ⟨g, o + p, none⟩ = some (.int .u64 y) ∧ W.cell? ⟨g, o + (p + 1), none⟩ = some (.int .u64 x)) [(0, 0), (1, 0), (2, 0), (3, 0), (4, 0), (5, 0), (6, 0), (7, 0), (8, 0), (9, 0), (10, 0), (11, 0), (12, 0), (13, 0), (14, 0), (15, 0), (16, 0), (17, 0)] (by kernel_rfl) (by kernel_rfl) (by kernel_rfl) ⟨h1, h0⟩ ?_
            iterate 18 (apply J.look (by rfl) (by rfl); (focus (intro W hW; obtain ⟨hW1, hW2⟩ := hW; obtain ⟨e1, e2, e3, e4⟩ := HE.out; go_simp; exact HasV.val rfl)); simp only [Act.put, List.setIfInBounds_toArray, List.set_cons_zero, List.set_cons_succ])
            refine J.fin ?_
            clear h0 h1
            go_wp2
            go_ret
            refine ⟨false, rfl, HDR.out, (fun h => by cases h), fun h => ?_⟩
            have := h.1 (p + 1) (by omega) (by rw [← HH.out.1]; exact hkn)
            rw [← HX.out, show p + 1 - 1 = p by omega] at this
            have h2 := HY.out
            rw [show p + 1 - 1 = p by omega] at h2
            have h3 := HXY.out
            omega
          · have HXY := Lib.hid hxy
            go_wp2_with fail
            refine J.wp_region_seq (fun W => W.cell? ⟨g, o + p, none⟩ = some (.int .u64 y) ∧ W.cell? ⟨g, o + (p + 1), none⟩ = some (.int .u64 x)) [(0, 0), (1, 0), (2, 0), (3, 0), (4, 0), (5, 0), (6, 0), (7, 0), (8, 0), (9, 0), (10, 0), (11, 0), (12, 0), (13, 0), (14, 0), (15, 0), (16, 0), (17, 0)] (by kernel_rfl) (by kernel_rfl) (by kernel_rfl) ⟨h1, h0⟩ ?_
            iterate 18 (apply J.look (by rfl) (by rfl); (focus (intro W hW; obtain ⟨hW1, hW2⟩ := hW; obtain ⟨e1, e2, e3, e4⟩ := HE.out; go_simp; exact HasV.val rfl)); simp only [Act.put, List.setIfInBounds_toArray, List.set_cons_zero, List.set_cons_succ])
            refine J.fin ?_
            clear h0 h1
            go_wp2
            go_roundw
            case rel =>
              refine ⟨p + 1 + 1, by go_num, by omega, by omega, Lib.hid ⟨fun j h1 h2 => ?_, HDR.out⟩⟩
              by_cases e : j = p + 1
              · subst e
                rw [← HX.out, ← HY.out]
                have := HXY.out
                omega
              · exact HI.out.1 j h1 (by omega)
            case measure => simp [intOf]; omega
    · obtain rfl : k = n := by omega
      go_wp2
      go_ret
      exact ⟨true, rfl, HI.out.2, fun _ => ⟨fun j h1 h2 => HI.out.1 j h1 (by rw [HH.out.1]; exact h2), by rw [← HH.out.1]; exact hk1⟩, fun _ => rfl⟩
set_option maxRecDepth 20000 in
set_option maxHeartbeats 4000000 in
theorem rbag_any {w : World} {A : Option Addr} {T : List Int} (c : Nat) (hr : ReadsI w .u64 A T) (hs : Ris T) (hl : T.length ≤ 100) (s : Int) :
    Calls Try.prog 54 #[.slice A T.length c, .int .u64 s] w fun e w' => e = .returned (.tuple #[.int .i64 (bagOf T s : Nat), .int .i64 0]) ∧ Chg (fun _ => False) w w' := by
  have hri := rising_any c (by omega) hr
  obtain ⟨n, hn⟩ : ∃ n, n = T.length := ⟨_, rfl⟩
  have HH := Lib.hid (⟨hn, hr, hs, hl⟩ : _ ∧ _ ∧ _ ∧ _)
  rw [← hn] at hri hl ⊢
  clear hn hr hs
  go_enter Try.func54, Try.ntmps54
  go_wp2_with fail
  refine hri.mono ?_
  rintro e w1 ⟨b, rfl, hC, hb⟩
  have hbt : b = true := hb.2 ⟨HH.out.2.2.1, HH.out.2.2.2⟩
  subst hbt
  have HC := Lib.hid hC
  clear hri hb hC
  go_wp2
  go_loop [12] (fun i => ∃ k : Nat, i = .int .i64 k ∧ k ≤ n ∧ Hid (∀ t, t < k → T.getD t 0 < s)) (fun i => n - (intOf i).toNat)
  case atStart => exact ⟨0, rfl, Nat.zero_le _, Lib.hid (fun t ht => by omega)⟩
  case round =>
    obtain ⟨k, rfl, hk, HI⟩ := hrel
    by_cases hkn : k < n
    · obtain ⟨hn, hr, hs, hl2⟩ := HH.out
      obtain ⟨g, o, rfl, hc⟩ := (hr.chg HC.out (fun _ _ f => f)).plain (by intro e; rw [e] at hn; simp at hn; omega)
      have h0 := hc k (by omega)
      obtain ⟨x, hx⟩ : ∃ x, x = T.getD k 0 := ⟨_, rfl⟩
      rw [← hx] at h0
      have HX := Lib.hid hx
      clear hc hr hn hs hl2 hx
      by_cases hxs : s ≤ x
      · have HXS := Lib.hid hxs
        have hbo : bagOf T s = k := bagOf_eq (by have := HH.out.1; omega) HI.out (fun _ => by rw [← HX.out]; exact hxs)
        have HBO := Lib.hid hbo
        clear hbo
        go_wp2
        go_ret2
        exact ⟨by rw [HBO.out]; rfl, HC.out⟩
      · have HXS := Lib.hid hxs
        go_wp2
        go_round
        case rel =>
          refine ⟨k + 1, by go_num, hkn, Lib.hid (fun t ht => ?_)⟩
          by_cases e : t = k
          · rw [e, ← HX.out]; have := HXS.out; omega
          · exact HI.out t (by omega)
        case measure => simp [intOf]; omega
    · obtain rfl : k = n := by omega
      have hbo : bagOf T s = k := bagOf_eq (by have := HH.out.1; omega) HI.out (fun h => by have := HH.out.1; omega)
      have HBO := Lib.hid hbo
      clear hbo
      go_wp2
      go_ret2
      exact ⟨by rw [HBO.out]; rfl, HC.out⟩
end Go.Proofs.Ythoagpagnldmeaa.V
