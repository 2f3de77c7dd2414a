/- Whether a ledger is the document's. -/
import Derived.Test.YtpndkelbchjkiaaLr8
import Derived.Deep.Quiet
set_option linter.unusedVariables false
set_option linter.unusedSimpArgs false
namespace Go.Proofs.Ytpndkelbchjkiaa
open Go.RowKit Go.Ps
namespace Q
section
variable {P : Program} {ops : Array Oper} {C : World → Prop} {Q : Act → Prop} {o : Oper} {rest : List Oper} {a : Act}
theorem look {v : Value} (hw : Region.wanted o (yielded ops a.tmps) = true) (hg : ∀ W, C W → Oper.quietUpon P C W v ((execOp a.eval o).run P W)) (h : wpQuiet P ops C Q rest (a.put o.dst v)) : wpQuiet P ops C Q (o :: rest) a := by
  unfold wpQuiet
  rw [if_pos hw]
  exact ⟨v, hg, h⟩
theorem pass (hw : Region.wanted o (yielded ops a.tmps) = false) (h : wpQuiet P ops C Q rest (a.put o.dst undef)) : wpQuiet P ops C Q (o :: rest) a := by
  unfold wpQuiet
  rw [if_neg (by rw [hw]; simp)]
  exact h
theorem fin (h : Q a) : wpQuiet P ops C Q [] a := h
theorem region {C : World → Prop} {id : Nat} {Q : Exit → Act → World → Prop} {a : Act} {w : World} {l : List Oper} (hm : P.follows .mixedOrders = true) (hB : Region.lexB .any l.toArray = true) (hC : C w.drew)
    (h : wpQuiet P l.toArray C (fun a' => ∀ w', C w' → Q .normal a' w') l a) : (Code.region id l.toArray true).wp P Q a w :=
  wp_region_quiet hm hB hC (by simpa using h)
end
end Q
set_option maxRecDepth 20000 in
set_option maxHeartbeats 8000000 in
theorem same_any {w : World} {g g2 : Nat} {V V2 : Value} {L L2 : List Row} {s : S} (h : LS 64 34 38 S.hd w g V L s) (k : LS 79 82 94 S.hd2 w g2 V2 L2 s) (hI : s.Inv) (hl : s.acc.length ≤ 1000) :
    Calls Try.prog 19 #[.pointer (some ⟨g, 0, none⟩), .pointer (some ⟨g2, 0, none⟩)] w fun e w' => e = .returned (.bool true) ∧ Chg (fun _ => False) w w' := by
  obtain ⟨n, hn⟩ : ∃ n, n = s.acc.length := ⟨_, rfl⟩
  obtain ⟨A0, c0, e0, _⟩ := k.at_.rows.form
  rw [k.len, ← hn] at e0
  have hT : ∀ W, Chg (fun _ => False) w W → W.cell? ⟨g2, 0, none⟩ = some (.slice A0 n c0) ∧ W.cell? ⟨g2, 1, none⟩ = some (.int .u64 s.tre) ∧ W.cell? ⟨g2, 2, none⟩ = some (.int .u64 s.pot) := fun W hC => by
    have := read3 (chg_heap0 hC k.at_.cell)
    rw [e0] at this
    exact this
  have hca : ∀ W, Chg (fun _ => False) w W → Calls Try.prog 28 #[.pointer (some ⟨g, 0, none⟩)] W fun e w' => e = .returned (.int .i64 n) ∧ Chg (fun _ => False) w w' := fun W hC => by
    refine (accounts_any (h.keep hC).at_.lat).mono ?_
    rintro e w' ⟨rfl, rfl⟩
    rw [h.len, ← hn]
    exact ⟨rfl, hC⟩
  have hct : ∀ W, Chg (fun _ => False) w W → Calls Try.prog 16 #[.pointer (some ⟨g, 0, none⟩)] W fun e w' => e = .returned (.int .u64 s.tre) ∧ Chg (fun _ => False) w w' := fun W hC => by
    refine (treasury_any (h.keep hC).at_.lat).mono ?_
    rintro e w' ⟨rfl, rfl⟩
    exact ⟨rfl, hC⟩
  have hcp : ∀ W, Chg (fun _ => False) w W → Calls Try.prog 29 #[.pointer (some ⟨g, 0, none⟩)] W fun e w' => e = .returned (.int .u64 s.pot) ∧ Chg (fun _ => False) w w' := fun W hC => by
    refine (pot_any (h.keep hC).at_.lat).mono ?_
    rintro e w' ⟨rfl, rfl⟩
    exact ⟨rfl, hC⟩
  have hci : ∀ W, Chg (fun _ => False) w W → Calls Try.prog 14 #[.pointer (some ⟨g, 0, none⟩)] W fun e w' => e = .returned (.int .u64 s.iss) ∧ Chg (fun _ => False) w w' := fun W hC => by
    refine (iss_any (h.keep hC)).mono ?_
    rintro e w' ⟨rfl, rfl⟩
    exact ⟨rfl, hC⟩
  have hcr : ∀ W, Chg (fun _ => False) w W → Calls Try.prog 53 #[.pointer (some ⟨g2, 0, none⟩)] W fun e w' => e = .returned (.int .u64 s.iss) ∧ Chg (fun _ => False) w w' := fun W hC => by
    refine (riss_any (k.keep hC) hI hl).mono ?_
    rintro e w' ⟨rfl, hC2⟩
    exact ⟨rfl, hC.trans hC2 (fun _ _ h => h)⟩
  obtain ⟨t0, ht0⟩ : ∃ t, t = s.tre := ⟨_, rfl⟩
  obtain ⟨p0, hp0⟩ : ∃ t, t = s.pot := ⟨_, rfl⟩
  obtain ⟨i0, hi0⟩ : ∃ t, t = s.iss := ⟨_, rfl⟩
  simp only [← ht0, ← hp0, ← hi0] at hT hct hcp hci hcr
  have FF := Lib.hid hT
  have CA := Lib.hid hca
  have CT := Lib.hid hct
  have CP := Lib.hid hcp
  have CI := Lib.hid hci
  have CR := Lib.hid hcr
  have hn1 : n ≤ 1000 := by omega
  have HH := Lib.hid (⟨h, k, hI, hn, e0⟩ : _ ∧ _ ∧ _ ∧ _ ∧ _)
  clear h k hI hl hn e0 hT hca hct hcp hci hcr ht0 hp0 hi0
  go_enter Try.func19, Try.ntmps19
  go_upto_region 1 with (fail)
  refine Q.region (C := fun W => Chg (fun _ => False) w W) (by kernel_rfl) (by kernel_rfl) ((Chg.refl _ w).drew) ?_
  apply Q.look (by rfl); (focus (intro W hW; obtain ⟨f0, f1, f2⟩ := FF.out W hW; go_simp; first | rfl | exact ⟨rfl, rfl⟩)); simp only [Act.put, List.setIfInBounds_toArray, List.set_cons_zero, List.set_cons_succ]
  refine Q.look (v := .int .i64 n) (by rfl) ?_ ?_
  · intro W hW
    have hc := (CA.out W hW)
    go_simp <;> first | exact hc | exact ⟨rfl, hc⟩
  simp only [Act.put, List.setIfInBounds_toArray, List.set_cons_zero, List.set_cons_succ]
  apply Q.look (by rfl); (focus (intro W hW; obtain ⟨f0, f1, f2⟩ := FF.out W hW; go_simp; first | rfl | exact ⟨rfl, rfl⟩)); simp only [Act.put, List.setIfInBounds_toArray, List.set_cons_zero, List.set_cons_succ]
  apply Q.look (by rfl); (focus (intro W hW; obtain ⟨f0, f1, f2⟩ := FF.out W hW; go_simp; first | rfl | exact ⟨rfl, rfl⟩)); simp only [Act.put, List.setIfInBounds_toArray, List.set_cons_zero, List.set_cons_succ]
  apply Q.look (by rfl); (focus (intro W hW; obtain ⟨f0, f1, f2⟩ := FF.out W hW; go_simp; first | rfl | exact ⟨rfl, rfl⟩)); simp only [Act.put, List.setIfInBounds_toArray, List.set_cons_zero, List.set_cons_succ]
  apply Q.look (by rfl); (focus (intro W hW; obtain ⟨f0, f1, f2⟩ := FF.out W hW; go_simp; first | rfl | exact ⟨rfl, rfl⟩)); simp only [Act.put, List.setIfInBounds_toArray, List.set_cons_zero, List.set_cons_succ]
  apply Q.look (by rfl); (focus (intro W hW; obtain ⟨f0, f1, f2⟩ := FF.out W hW; go_simp; first | rfl | exact ⟨rfl, rfl⟩)); simp only [Act.put, List.setIfInBounds_toArray, List.set_cons_zero, List.set_cons_succ]
  apply Q.look (by rfl); (focus (intro W hW; obtain ⟨f0, f1, f2⟩ := FF.out W hW; go_simp; first | rfl | exact ⟨rfl, rfl⟩)); simp only [Act.put, List.setIfInBounds_toArray, List.set_cons_zero, List.set_cons_succ]
  apply Q.look (by rfl); (focus (intro W hW; obtain ⟨f0, f1, f2⟩ := FF.out W hW; go_simp; first | rfl | exact ⟨rfl, rfl⟩)); simp only [Act.put, List.setIfInBounds_toArray, List.set_cons_zero, List.set_cons_succ]
  apply Q.look (by rfl); (focus (intro W hW; obtain ⟨f0, f1, f2⟩ := FF.out W hW; go_simp; first | rfl | exact ⟨rfl, rfl⟩)); simp only [Act.put, List.setIfInBounds_toArray, List.set_cons_zero, List.set_cons_succ]
  refine Q.look (v := .int .u64 t0) (by rfl) ?_ ?_
  · intro W hW
    have hc := (CT.out W hW)
    go_simp <;> first | exact hc | exact ⟨rfl, hc⟩
  simp only [Act.put, List.setIfInBounds_toArray, List.set_cons_zero, List.set_cons_succ]
  apply Q.look (by rfl); (focus (intro W hW; obtain ⟨f0, f1, f2⟩ := FF.out W hW; go_simp; first | rfl | exact ⟨rfl, rfl⟩)); simp only [Act.put, List.setIfInBounds_toArray, List.set_cons_zero, List.set_cons_succ]
  apply Q.look (by rfl); (focus (intro W hW; obtain ⟨f0, f1, f2⟩ := FF.out W hW; go_simp; first | rfl | exact ⟨rfl, rfl⟩)); simp only [Act.put, List.setIfInBounds_toArray, List.set_cons_zero, List.set_cons_succ]
  apply Q.look (by rfl); (focus (intro W hW; obtain ⟨f0, f1, f2⟩ := FF.out W hW; go_simp; first | rfl | exact ⟨rfl, rfl⟩)); simp only [Act.put, List.setIfInBounds_toArray, List.set_cons_zero, List.set_cons_succ]
  apply Q.look (by rfl); (focus (intro W hW; obtain ⟨f0, f1, f2⟩ := FF.out W hW; go_simp; first | rfl | exact ⟨rfl, rfl⟩)); simp only [Act.put, List.setIfInBounds_toArray, List.set_cons_zero, List.set_cons_succ]
  apply Q.look (by rfl); (focus (intro W hW; obtain ⟨f0, f1, f2⟩ := FF.out W hW; go_simp; first | rfl | exact ⟨rfl, rfl⟩)); simp only [Act.put, List.setIfInBounds_toArray, List.set_cons_zero, List.set_cons_succ]
  apply Q.look (by rfl); (focus (intro W hW; obtain ⟨f0, f1, f2⟩ := FF.out W hW; go_simp; first | rfl | exact ⟨rfl, rfl⟩)); simp only [Act.put, List.setIfInBounds_toArray, List.set_cons_zero, List.set_cons_succ]
  apply Q.look (by rfl); (focus (intro W hW; obtain ⟨f0, f1, f2⟩ := FF.out W hW; go_simp; first | rfl | exact ⟨rfl, rfl⟩)); simp only [Act.put, List.setIfInBounds_toArray, List.set_cons_zero, List.set_cons_succ]
  apply Q.look (by rfl); (focus (intro W hW; obtain ⟨f0, f1, f2⟩ := FF.out W hW; go_simp; first | rfl | exact ⟨rfl, rfl⟩)); simp only [Act.put, List.setIfInBounds_toArray, List.set_cons_zero, List.set_cons_succ]
  refine Q.look (v := .int .u64 p0) (by rfl) ?_ ?_
  · intro W hW
    have hc := (CP.out W hW)
    go_simp <;> first | exact hc | exact ⟨rfl, hc⟩
  simp only [Act.put, List.setIfInBounds_toArray, List.set_cons_zero, List.set_cons_succ]
  apply Q.look (by rfl); (focus (intro W hW; obtain ⟨f0, f1, f2⟩ := FF.out W hW; go_simp; first | rfl | exact ⟨rfl, rfl⟩)); simp only [Act.put, List.setIfInBounds_toArray, List.set_cons_zero, List.set_cons_succ]
  apply Q.look (by rfl); (focus (intro W hW; obtain ⟨f0, f1, f2⟩ := FF.out W hW; go_simp; first | rfl | exact ⟨rfl, rfl⟩)); simp only [Act.put, List.setIfInBounds_toArray, List.set_cons_zero, List.set_cons_succ]
  apply Q.look (by rfl); (focus (intro W hW; obtain ⟨f0, f1, f2⟩ := FF.out W hW; go_simp; first | rfl | exact ⟨rfl, rfl⟩)); simp only [Act.put, List.setIfInBounds_toArray, List.set_cons_zero, List.set_cons_succ]
  apply Q.look (by rfl); (focus (intro W hW; obtain ⟨f0, f1, f2⟩ := FF.out W hW; go_simp; first | rfl | exact ⟨rfl, rfl⟩)); simp only [Act.put, List.setIfInBounds_toArray, List.set_cons_zero, List.set_cons_succ]
  apply Q.look (by rfl); (focus (intro W hW; obtain ⟨f0, f1, f2⟩ := FF.out W hW; go_simp; first | rfl | exact ⟨rfl, rfl⟩)); simp only [Act.put, List.setIfInBounds_toArray, List.set_cons_zero, List.set_cons_succ]
  apply Q.look (by rfl); (focus (intro W hW; obtain ⟨f0, f1, f2⟩ := FF.out W hW; go_simp; first | rfl | exact ⟨rfl, rfl⟩)); simp only [Act.put, List.setIfInBounds_toArray, List.set_cons_zero, List.set_cons_succ]
  apply Q.look (by rfl); (focus (intro W hW; obtain ⟨f0, f1, f2⟩ := FF.out W hW; go_simp; first | rfl | exact ⟨rfl, rfl⟩)); simp only [Act.put, List.setIfInBounds_toArray, List.set_cons_zero, List.set_cons_succ]
  apply Q.look (by rfl); (focus (intro W hW; obtain ⟨f0, f1, f2⟩ := FF.out W hW; go_simp; first | rfl | exact ⟨rfl, rfl⟩)); simp only [Act.put, List.setIfInBounds_toArray, List.set_cons_zero, List.set_cons_succ]
  refine Q.look (v := .int .u64 i0) (by rfl) ?_ ?_
  · intro W hW
    have hc := (CI.out W hW)
    go_simp <;> first | exact hc | exact ⟨rfl, hc⟩
  simp only [Act.put, List.setIfInBounds_toArray, List.set_cons_zero, List.set_cons_succ]
  apply Q.look (by rfl); (focus (intro W hW; obtain ⟨f0, f1, f2⟩ := FF.out W hW; go_simp; first | rfl | exact ⟨rfl, rfl⟩)); simp only [Act.put, List.setIfInBounds_toArray, List.set_cons_zero, List.set_cons_succ]
  refine Q.look (v := .int .u64 i0) (by rfl) ?_ ?_
  · intro W hW
    have hc := (CR.out W hW)
    go_simp <;> first | exact hc | exact ⟨rfl, hc⟩
  simp only [Act.put, List.setIfInBounds_toArray, List.set_cons_zero, List.set_cons_succ]
  apply Q.look (by rfl); (focus (intro W hW; obtain ⟨f0, f1, f2⟩ := FF.out W hW; go_simp; first | rfl | exact ⟨rfl, rfl⟩)); simp only [Act.put, List.setIfInBounds_toArray, List.set_cons_zero, List.set_cons_succ]
  apply Q.look (by rfl); (focus (intro W hW; obtain ⟨f0, f1, f2⟩ := FF.out W hW; go_simp; first | rfl | exact ⟨rfl, rfl⟩)); simp only [Act.put, List.setIfInBounds_toArray, List.set_cons_zero, List.set_cons_succ]
  refine Q.fin ?_
  intro W hW
  obtain ⟨f0, _, _⟩ := FF.out W hW
  have HW := Lib.hid hW
  clear hW
  go_wp2
  go_loopw [50] (fun i wr => ∃ t : Nat, t ≤ n ∧ i = .int .i64 t ∧ Hid (Chg (fun _ => False) w wr)) (fun i _ => n - (intOf i).toNat)
  case atStart => exact ⟨0, by omega, rfl, HW⟩
  case round =>
    obtain ⟨t, ht, rfl, HC⟩ := hrel
    by_cases ht2 : t < n
    · obtain ⟨h, k, hI, hn, e0⟩ := HH.out
      have htl : t < s.acc.length := by omega
      have hac := account_any (h.keep HC.out) t (by have := hI.few t; omega)
      unfold AccPost at hac
      simp only [if_neg (show ¬ s.bad t by unfold S.bad; omega), Int.toNat_natCast] at hac
      obtain ⟨b2, cb, B, d, e1, e2, e3, hcells⟩ := k.cells (i := t) (by rw [k.len]; exact htl)
      have hrow := k.at_.chs t (by rw [k.len]; exact htl)
      have hxx : (L2.getD t r0).1 = s.acc.getD t a0 := by rw [← fst_getD, k.acc]
      rw [hxx, e2] at hrow
      rw [e0] at e1
      rw [k.len, ← hn] at e1 hcells
      simp only [Value.slice.injEq, true_and] at e1
      obtain ⟨rfl, rfl⟩ := e1
      have hfew : (s.acc.getD t a0).ch.length ≤ 900 := by have := hI.few t; simp only [Int.toNat_natCast] at this; omega
      obtain ⟨a, ha⟩ : ∃ a, a = s.acc.getD t a0 := ⟨_, rfl⟩
      rw [← ha] at hac hrow hcells hfew
      have HROW := Lib.hid (⟨hrow, hfew⟩ : _ ∧ _)
      obtain ⟨fr, bo, de, ch⟩ := a
      simp only at hac hcells hrow hfew
      obtain ⟨cn, hcn⟩ : ∃ x, x = ch.length := ⟨_, rfl⟩
      rw [← hcn] at hac hcells
      have HCN := Lib.hid hcn
      have HCE := Lib.hid hcells
      clear h k hI hn e0 htl e2 e3 hrow hxx ha hcells hfew hcn
      go_wp2_with fail
      refine hac.mono ?_
      rintro e w4 ⟨A4, c4, rfl, hN4⟩
      have k4 : (w4.alloc (.cells #[.int .u64 fr, .int .u64 bo, .int .u64 de, .slice A4 cn c4] 34)).heap[w4.heap.size]? = some (.cells #[.int .u64 fr, .int .u64 bo, .int .u64 de, .slice A4 cn c4] 34 (0, 0)) := heap_alloc_at _ _
      have hC4 : Chg (fun _ => False) wr (w4.alloc (.cells #[.int .u64 fr, .int .u64 bo, .int .u64 de, .slice A4 cn c4] 34)) := hN4.2.1.alloc _
      have hO4 := hN4.1.chg ((Chg.refl (fun _ => False) w4).alloc (.cells #[.int .u64 fr, .int .u64 bo, .int .u64 de, .slice A4 cn c4] 34)) (fun _ _ => id)
      obtain ⟨W4, hW4⟩ : ∃ W, W = w4.alloc (.cells #[.int .u64 fr, .int .u64 bo, .int .u64 de, .slice A4 cn c4] 34) := ⟨_, rfl⟩
      obtain ⟨q4, hq4⟩ : ∃ q, q = w4.heap.size := ⟨_, rfl⟩
      rw [← hW4] at k4 hC4 hO4
      rw [← hq4] at k4
      have hCw := HC.out.trans hC4 (fun _ _ h => h)
      have hF : ∀ W, Chg (fun _ => False) W4 W → (W.cell? ⟨q4, 0, none⟩ = some (.int .u64 fr) ∧ W.cell? ⟨q4, 1, none⟩ = some (.int .u64 bo) ∧ W.cell? ⟨q4, 2, none⟩ = some (.int .u64 de) ∧ W.cell? ⟨q4, 3, none⟩ = some (.slice A4 cn c4)) ∧ W.cell? ⟨g2, 0, none⟩ = some (.slice (some ⟨b2, 0, none⟩) n c0) ∧ W.cell? ⟨b2, t * 4, none⟩ = some (.int .u64 fr) ∧ W.cell? ⟨b2, t * 4 + 1, none⟩ = some (.int .u64 bo) ∧ W.cell? ⟨b2, t * 4 + 2, none⟩ = some (.int .u64 de) ∧ W.cell? ⟨b2, t * 4 + 3, none⟩ = some (.slice B cn d) := fun W hC => ⟨read4 (chg_heap0 hC k4), HCE.out W (hCw.trans hC (fun _ _ h => h))⟩
      have HF := Lib.hid hF
      have HW4 := Lib.hid (⟨hW4, hq4⟩ : _ ∧ _)
      have HR := Lib.hid (⟨hCw, hO4⟩ : _ ∧ _)
      clear hN4 k4 hC4 hO4 hW4 hq4 hac hCw hF
      go_upto_region 7 with (fail)
      rw [← HW4.out.1, ← HW4.out.2]
      refine J.wp_region_seq (fun W => Chg (fun _ => False) W4 W) [(0, 0), (1, 0), (2, 0), (3, 0), (5, 0), (6, 0), (7, 0), (8, 0), (9, 0), (10, 0), (11, 0), (4, 1), (12, 1), (13, 0), (14, 0)] (by kernel_rfl) (by kernel_rfl) (by kernel_rfl) ((Chg.refl _ W4).drew) ?_
      iterate 11 (apply J.look (by rfl) (by rfl); (focus (intro W hW; obtain ⟨⟨g0, g1, g2', g3⟩, u0, u1, u2, u3, u4⟩ := HF.out W hW; go_simp; exact HasV.val rfl)); simp only [Act.put, List.setIfInBounds_toArray, List.set_cons_zero, List.set_cons_succ])
      refine J.link (fun u W => ∃ A5 c5, u = .agg #[.int .u64 fr, .int .u64 bo, .int .u64 de, .slice A5 cn c5] ∧ OwnF W 94 2 fch (.slice A5 ch.length c5) ch ∧ Chg (fun _ => False) W4 W) (by rfl) (by rfl) ?_ (fun u W hR => by obtain ⟨_, _, _, _, hC⟩ := hR; exact hC) ?_
      · have hc := acct_any (w := W4.drew) ⟨fr, bo, de, ch⟩ (A := A4) (c := c4) (by
          have := HR.out.2.chg ((Chg.refl (fun _ => False) W4).drew) (fun _ _ => id)
          rw [HCN.out] at this
          exact this) HROW.out.2
        unfold acv at hc
        simp only at hc
        rw [← HCN.out] at hc
        go_simp
        refine J.HasR.call (hc.mono ?_)
        rintro e W ⟨A5, c5, rfl, hO5, hC5⟩
        rw [HCN.out] at hO5
        exact ⟨_, rfl, A5, c5, rfl, hO5, (Chg.refl (fun _ => False) W4).drew.trans hC5 (fun _ _ h => h)⟩
      rintro u W ⟨A5, c5, rfl, hO5, hC5⟩
      simp only [Act.put, List.setIfInBounds_toArray, List.set_cons_zero, List.set_cons_succ]
      refine J.link (fun u W' => u = .bool true ∧ Chg (fun _ => False) W4 W') (by rfl) (by rfl) ?_ (fun u W hR => hR.2) ?_
      · have hc := sameacc_any (w := W) ⟨fr, bo, de, ch⟩ (A := A5) (c := c5) (B := B) (d := d) hO5 (HROW.out.1.chg (HR.out.1.trans hC5 (fun _ _ h => h)) (fun _ _ => id)) HROW.out.2
        unfold acv at hc
        simp only at hc
        rw [← HCN.out] at hc
        go_simp
        refine J.HasR.call (hc.mono ?_)
        rintro e W' ⟨rfl, hC6⟩
        exact ⟨_, rfl, rfl, hC5.trans hC6 (fun _ _ h => h)⟩
      rintro u W' ⟨rfl, hC6⟩
      simp only [Act.put, List.setIfInBounds_toArray, List.set_cons_zero, List.set_cons_succ]
      iterate 2 (apply J.look (by rfl) (by rfl); (focus (intro W hW; go_simp; exact HasV.val rfl)); simp only [Act.put, List.setIfInBounds_toArray, List.set_cons_zero, List.set_cons_succ])
      refine J.fin ?_
      have HC7 := Lib.hid (HR.out.1.trans hC6 (fun _ _ h => h))
      clear hC6 hC5 hO5
      go_wp2
      go_roundw
      case rel => exact ⟨t + 1, by omega, by go_num, HC7⟩
      case measure => simp [intOf]; omega
    · have et : t = n := by omega
      subst et
      have hno : ∀ (W : World) (i : Int), Chg (fun _ => False) w W → (i = t ∨ i = -1) → Calls Try.prog 12 #[.pointer (some ⟨g, 0, none⟩), .int .i64 i] W fun e w' => e = .returned (.tuple #[.agg #[.int .u64 0, .int .u64 0, .int .u64 0, .slice none 0 0], .bool false]) ∧ Chg (fun _ => False) w w' := fun W i hC hi => by
        obtain ⟨h, k, hI, hn, e0⟩ := HH.out
        have hac := account_any (h.keep hC) i (by have := hI.few i; omega)
        unfold AccPost at hac
        simp only [if_pos (show s.bad i by unfold S.bad; omega)] at hac
        refine hac.mono ?_
        rintro e w' ⟨rfl, hC2⟩
        exact ⟨rfl, hC.trans hC2 (fun _ _ h => h)⟩
      obtain ⟨u0, _, _⟩ := FF.out _ HC.out
      have h1 := hno _ t HC.out (.inl rfl)
      go_wp2_with fail
      refine h1.mono ?_
      rintro e w5 ⟨rfl, hC5⟩
      have HC5 := Lib.hid (hC5.alloc (.cells #[.int .u64 0, .int .u64 0, .int .u64 0, .slice none 0 0] 34))
      have h2 := hno _ (-1) HC5.out (.inr rfl)
      clear hC5 h1 u0
      go_wp2_with fail
      refine h2.mono ?_
      rintro e w6 ⟨rfl, hC6⟩
      have HC6 := Lib.hid (hC6.alloc (.cells #[.int .u64 0, .int .u64 0, .int .u64 0, .slice none 0 0] 34))
      clear hC6 h2 hno
      go_wp2
      go_ret
      exact ⟨rfl, HC6.out⟩
end Go.Proofs.Ytpndkelbchjkiaa
