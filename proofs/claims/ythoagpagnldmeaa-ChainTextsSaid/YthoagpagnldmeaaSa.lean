/- The two chains are alike: same. -/
import Derived.Test.YthoagpagnldmeaaSi
import Derived.Laws.StructEq
import Derived.Deep.QuietTactic
import Derived.BigQuiet
set_option linter.unusedVariables false
set_option linter.unusedSimpArgs false
namespace Go.Proofs.Ythoagpagnldmeaa
open Go.RowKit Go.Ps
theorem neq49 (a b : Int) (w : World) : (binOp .neq 49 (.agg #[.int .i64 a, .int .i64 b]) (.agg #[.int .i64 a, .int .i64 b])).run Try.prog w = .ok (.bool false) w := by
  have hS : Try.prog.underlying 49 = some (.struct (Try.prog.fieldsOf 49)) := by kernel_rfl
  have hp : Try.prog.stoodInHeld 49 = false := by kernel_rfl
  have h3 : ∀ (a : Int) (w : World), (Op.equalIn 9999 3 (.int .i64 a) (.int .i64 a)).run Try.prog w = .ok true w := fun a w => by
    rw [show (9999 : Nat) = 9998 + 1 from rfl, run_equalIn_int w 9998 3 .i64 .i64 a a Try.underlying3]
    simp
  rw [run_neq_struct, show (10000 : Nat) = 9999 + 1 from rfl, run_equalIn_agg w 9999 49 _ _ hS hp]
  simp [Program.fieldsOf, Try.underlying49, Op.eqFields, go_sem, h3, Result.andThen]
theorem row_cells {W : World} {v : Value} {L : List (Int × Int)} (h : OwnF W 49 2 fmem v L) (k : Nat) (hk : k < L.length) :
    ∃ g c, v = .slice (some ⟨g, 0, none⟩) L.length c ∧ W.cell? ⟨g, k * 2, none⟩ = some (.int .i64 (L.getD k (0, 0)).1) ∧ W.cell? ⟨g, k * 2 + 1, none⟩ = some (.int .i64 (L.getD k (0, 0)).2) := by
  obtain ⟨g, c, cur, hv, hvo, hcb, hcv, hcs, hcc⟩ := h.at_ layM (0, 0) (by omega)
  refine ⟨g, c, hv, cell_of hcb _ ?_, cell_of hcb _ ?_⟩
  · rw [show k * 2 = k * 2 + 0 from rfl, hcc k 0 hk (by omega)]; rfl
  · rw [hcc k 1 hk (by omega)]; rfl
set_option maxRecDepth 20000 in
set_option maxHeartbeats 4000000 in
theorem same_any {w0 W : World} {g c : Nat} {mp : Option Nat} {X : List Mem} {L : List (Int × Int)} {v : Value} {n : Int} (h : Sim w0 W g c mp X L v n) (hl : L.length ≤ 1000) :
    Calls Try.prog 25 #[.pointer (some ⟨g, 0, none⟩), .pointer (some ⟨c, 0, none⟩)] W fun e w' => e = .returned (.bool true) ∧ Chg (fun _ => False) W w' := by
  have hXl := h.nm.length
  have hr1 := row_all h.ch h.nm (by omega)
  have H := Lib.hid h
  have HL := Lib.hid (⟨hl, hXl⟩ : _ ∧ _)
  obtain ⟨m, hm⟩ : ∃ m, m = L.length := ⟨_, rfl⟩
  have HMm := Lib.hid hm
  clear h hl hXl hm
  go_enter Try.func25, Try.ntmps25
  go_wp2_with fail
  refine hr1.mono ?_
  rintro e w1 ⟨v1, rfl, ho1, hf1, hC1⟩
  have hr2 := row_back (H.out.keep hC1).ch H.out.nm (by have := HL.out; omega)
  have HO1 := Lib.hid ho1
  have HC1 := Lib.hid hC1
  clear hr1 ho1 hf1 hC1
  go_wp2_with fail
  refine hr2.mono ?_
  rintro e w2 ⟨v2, rfl, ho2, hf2, hC2⟩
  have hC := HC1.out.trans hC2 (fun _ _ => id)
  have ho1 : OwnF w2 49 2 fmem v1 L := HO1.out.chg hC2 (fun _ _ => id)
  obtain ⟨A1, c1, rfl, _⟩ := ho1.form
  obtain ⟨A2, c2, rfl, _⟩ := ho2.form
  have hS2 := H.out.keep hC
  obtain ⟨A, cp, hvv, _⟩ := hS2.rf.own.form
  subst hvv
  have x0 := hS2.rf.cells.1
  have hln := fun q => len_any ((hS2.keep ((Chg.refl _ w2).drewN q)).ch)
  rw [H.out.nm.length] at hln
  simp only [List.length_reverse]
  rw [← HMm.out] at x0 hln ⊢
  have HF := Lib.hid (⟨ho1, ho2, hC, hS2⟩ : _ ∧ _ ∧ _ ∧ _)
  clear hr2 ho1 ho2 hC2 hf2 hC hS2 HO1 HC1
  go_wp2_with fail
  go_quiet ((go_at_call 15; exact Calls.quiet_of_same ((hln _).mono fun e w' h => ⟨h.1, h.2⟩)))
  clear hln
  have HCn := Lib.hid (show Chg (fun _ => False) w2 (w2.drewN nq) from (Chg.refl _ w2).drewN nq)
  go_wp2
  go_loopw [42] (fun i wr => ∃ k : Nat, i = .int .i64 k ∧ k ≤ m ∧ Chg (fun _ => False) w2 wr) (fun i _ => m - (intOf i).toNat)
  case atStart => exact ⟨0, rfl, Nat.zero_le _, HCn.out⟩
  case round =>
    obtain ⟨k, rfl, hk, hCw⟩ := hrel
    obtain ⟨ho1, ho2, hC, hS2⟩ := HF.out
    by_cases hkm : k < m
    · have hml := HMm.out
      have hl := HL.out.1
      have hS := hS2.keep hCw
      obtain ⟨g1, d1, hv1, p0, p1⟩ := row_cells (ho1.chg hCw (fun _ _ => id)) k (by omega)
      obtain ⟨g2, d2, hv2, s0, s1⟩ := row_cells (ho2.chg hCw (fun _ _ => id)) (m - 1 - k) (by rw [List.length_reverse]; omega)
      obtain ⟨g3, d3, hv3, t0, t1⟩ := row_cells hS.rf.own k (by omega)
      have hrv : L.reverse.getD (m - 1 - k) (0, 0) = L.getD k (0, 0) := by
        rw [List.getD_eq_getElem?_getD, List.getD_eq_getElem?_getD, List.getElem?_reverse (by omega)]
        congr 2
        omega
      rw [hrv] at s0 s1
      obtain ⟨x, hx⟩ : ∃ x, x = L.getD k (0, 0) := ⟨_, rfl⟩
      rw [← hx] at p0 p1 s0 s1 t0 t1
      have y0 := hS.rf.cells.1
      cases hv1
      cases hv2
      cases hv3
      rw [← hml] at y0
      obtain ⟨j, hj⟩ : ∃ j, j = m - 1 - k := ⟨_, rfl⟩
      rw [← hj] at s0 s1
      obtain ⟨m1, hm1⟩ : ∃ m1 : Int, m1 = (m : Int) - 1 := ⟨_, rfl⟩
      have hw1 : wrap64 ((m : Int) - 1) = m1 := by unfold wrap64; omega
      have hw2 : wrap64 (m1 - (k : Int)) = (j : Int) := by unfold wrap64; omega
      have hw1' : IntKind.i64.wrap ((m : Int) - 1) = m1 := by rw [wrap_i (by omega) (by omega), hm1]
      have hw2' : IntKind.i64.wrap (m1 - (k : Int)) = (j : Int) := by rw [wrap_i (by omega) (by omega)]; omega
      have hkI : (k : Int) < m := by omega
      have hjI : (j : Int) < m := by omega
      have HW := Lib.hid (show wrap64 ((k : Int) + 1) = ((k + 1 : Nat) : Int) by unfold wrap64; omega)
      have HQ := Lib.hid (⟨hkm, hCw⟩ : _ ∧ _)
      have hq49 := neq49
      clear ho1 ho2 hC hS2 hml hl hS hrv hx hj hm1 hkm hk hCw x0
      go_wp2_with fail
      go_quiet (fail)
      have HCq := Lib.hid (HQ.out.2.drewN nq)
      go_wp2
      go_roundw
      case rel => exact ⟨k + 1, by rw [HW.out], HQ.out.1, HCq.out⟩
      case measure =>
        have h1 := HQ.out.1
        rw [HW.out]
        simp only [intOf, Int.toNat_natCast]
        omega
    · have hkI : ¬ (k : Int) < m := by omega
      have HQ := Lib.hid (hC.trans hCw (fun _ _ => id))
      clear ho1 ho2 hC hS2 hkm hk hCw x0
      go_wp2
      go_ret
      exact ⟨rfl, HQ.out⟩
end Go.Proofs.Ythoagpagnldmeaa
