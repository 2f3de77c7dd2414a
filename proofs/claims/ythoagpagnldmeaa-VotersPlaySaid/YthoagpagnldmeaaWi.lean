/- Voters: Front. -/
import Derived.Test.YthoagpagnldmeaaWh
set_option linter.unusedVariables false
set_option linter.unusedSimpArgs false
namespace Go.Proofs.Ythoagpagnldmeaa.V
open Go.RowKit Go.Ps
section
variable {w : World} {g bm : Nat} {tv rv : Value} {T : List Int} {rows : List (List Vo)} {N : Int} {col : Nat → Nat}
theorem find_gen (k : Int) (h : VM w g bm tv rv T rows N col) : ∃ (p : Option Addr) (x : Int), Calls Try.prog 77 #[.pointer (some ⟨g, 0, none⟩), .int .i64 k] w fun e w' => e = .returned (.tuple #[.pointer p, .int .i64 x]) ∧ w' = w := by
  cases hk : findV rows k with
  | none => exact ⟨none, 5, find_no h hk⟩
  | some p => exact ⟨_, 0, find_yes h hk⟩
set_option maxRecDepth 20000 in
theorem front_no {k j : Int} (h : VM w g bm tv rv T rows N col) (hk : findV rows k = none ∨ findV rows j = none) : Calls Try.prog 46 #[.pointer (some ⟨g, 0, none⟩), .int .i64 k, .int .i64 j] w fun e w' => e = .returned (.int .i64 5) ∧ w' = w := by
  cases hk1 : findV rows k with
  | none =>
    have hf := find_no h hk1
    obtain ⟨p, x, hf2⟩ := find_gen j h
    clear h hk hk1
    go_enter Try.func46, Try.ntmps46
    go_wp2_with fail
    refine hf.mono ?_
    rintro e w' ⟨rfl, hww⟩
    obtain rfl : w = w' := hww.symm
    clear hf
    go_wp2_with fail
    refine hf2.mono ?_
    rintro e w' ⟨rfl, hww⟩
    obtain rfl : w = w' := hww.symm
    clear hf2
    go_wp2
    go_ret
    exact ⟨rfl, rfl⟩
  | some p =>
    have hf := find_yes h hk1
    have hf2 := find_no h (hk.resolve_left (by rw [hk1]; simp))
    clear h hk hk1
    go_enter Try.func46, Try.ntmps46
    go_wp2_with fail
    refine hf.mono ?_
    rintro e w' ⟨rfl, hww⟩
    obtain rfl : w = w' := hww.symm
    clear hf
    go_wp2_with fail
    refine hf2.mono ?_
    rintro e w' ⟨rfl, hww⟩
    obtain rfl : w = w' := hww.symm
    clear hf2
    go_wp2
    go_ret
    exact ⟨rfl, rfl⟩
theorem info124 : ∃ j, Try.prog.info? 124 = some j ∧ j.size ≠ 0 := by
  have h : (Try.prog.info? 124).map (fun j => j.size) = some 3 := by kernel_rfl
  obtain ⟨j, h1, h2⟩ := Option.map_eq_some_iff.1 h
  exact ⟨j, h1, by rw [h2]; decide⟩
set_option maxRecDepth 20000 in
set_option maxHeartbeats 2000000 in
theorem front_state {k j : Int} {p q : Vo} (h : VM w g bm tv rv T rows N col) (hk : findV rows k = some p) (hj : findV rows j = some q) (hc : p = q ∨ p.bag ≠ q.bag ∨ p.stake ≤ q.stake) : Calls Try.prog 46 #[.pointer (some ⟨g, 0, none⟩), .int .i64 k, .int .i64 j] w fun e w' => e = .returned (.int .i64 10) ∧ Chg (fun _ => False) w w' := by
  have hf := find_yes h hk
  have hf2 := find_yes h hj
  have yb := h.vo (findV_some hk).1
  have zb := h.vo (findV_some hj).1
  have hnb : p.b = q.b → p = q := fun e => by
    obtain ⟨cs, h0, _⟩ := h.ex
    have hn := h0.nb
    obtain ⟨i, hi, hi2⟩ := List.mem_iff_getElem.1 (findV_some hk).1
    obtain ⟨i', hi', hi2'⟩ := List.mem_iff_getElem.1 (findV_some hj).1
    have : i = i' := by
      refine (List.getElem_inj (h₀ := by rw [List.length_map]; exact hi) (h₁ := by rw [List.length_map]; exact hi') hn).1 ?_
      simp only [List.getElem_map]
      rw [hi2, hi2']
      exact e
    subst this
    exact hi2.symm.trans hi2'
  obtain ⟨ji, hj1, hj2⟩ := info124
  by_cases hpq : p = q
  · subst hpq
    obtain ⟨pb, hpb⟩ : ∃ pb, pb = p.b := ⟨_, rfl⟩
    obtain ⟨ps, hps⟩ : ∃ ps, ps = p.stake := ⟨_, rfl⟩
    obtain ⟨pg, hpg⟩ : ∃ pg, pg = p.bag := ⟨_, rfl⟩
    obtain ⟨ph, hph⟩ : ∃ ph, ph = p.h := ⟨_, rfl⟩
    rw [← hpb, ← hps, ← hpg, ← hph] at yb
    rw [← hpb] at hf hf2
    have YB := Lib.hid yb
    have ZB := YB
    have hEQ : ∀ W, W.heap[pb]? = some (.cells #[.int .u64 ps, .int .i64 pg, .int .i64 ph] 124 (0, 0)) → W.heap[pb]? = some (.cells #[.int .u64 ps, .int .i64 pg, .int .i64 ph] 124 (0, 0)) → (binOp .eql 119 (.pointer (some ⟨pb, 0, none⟩)) (.pointer (some ⟨pb, 0, none⟩))).run Try.prog W = .ok (.bool true) W := fun W _ _ => run_eql_ptr_same (P := Try.prog) W ⟨pb, 0, none⟩ Try.underlying119 hj1
    clear h hk hj hc hnb hpb hps hpg hph yb zb hj1 hj2
    go_enter Try.func46, Try.ntmps46
    go_wp2_with fail
    refine hf.mono ?_
    rintro e w' ⟨rfl, hww⟩
    obtain rfl : w = w' := hww.symm
    clear hf
    go_wp2_with fail
    refine hf2.mono ?_
    rintro e w' ⟨rfl, hww⟩
    obtain rfl : w = w' := hww.symm
    clear hf2
    go_wp2_with fail
    refine J.wp_region_seq (fun W => W.heap[pb]? = some (.cells #[.int .u64 ps, .int .i64 pg, .int .i64 ph] 124 (0, 0)) ∧ W.heap[pb]? = some (.cells #[.int .u64 ps, .int .i64 pg, .int .i64 ph] 124 (0, 0))) [(0, 0), (1, 0), (2, 0), (3, 0), (4, 0), (5, 0), (6, 0), (7, 0), (8, 0), (9, 0), (10, 0), (11, 0), (12, 0), (13, 0), (14, 0), (15, 0), (16, 0), (17, 0), (18, 0), (19, 0), (20, 0), (21, 0), (22, 0), (23, 0), (24, 0), (25, 0)] (by kernel_rfl) (by kernel_rfl) (by kernel_rfl) ⟨YB.out, ZB.out⟩ ?_
    iterate 4 (apply J.look (by rfl) (by rfl); (focus (intro W hW; obtain ⟨hB1, hB2⟩ := hW; obtain ⟨hW1, hW2, -⟩ := read3 hB1; obtain ⟨hW3, hW4, -⟩ := read3 hB2; have hE := hEQ W hB1 hB2; clear hB1 hB2; go_simp; exact HasV.val rfl)); simp only [Act.put, List.setIfInBounds_toArray, List.set_cons_zero, List.set_cons_succ])
    iterate 9 (apply J.pass (by rfl) (by rfl); simp only [Act.put, List.setIfInBounds_toArray, List.set_cons_zero, List.set_cons_succ])
    iterate 2 (apply J.look (by rfl) (by rfl); (focus (intro W hW; obtain ⟨hB1, hB2⟩ := hW; obtain ⟨hW1, hW2, -⟩ := read3 hB1; obtain ⟨hW3, hW4, -⟩ := read3 hB2; have hE := hEQ W hB1 hB2; clear hB1 hB2; go_simp; exact HasV.val rfl)); simp only [Act.put, List.setIfInBounds_toArray, List.set_cons_zero, List.set_cons_succ])
    iterate 9 (apply J.pass (by rfl) (by rfl); simp only [Act.put, List.setIfInBounds_toArray, List.set_cons_zero, List.set_cons_succ])
    iterate 2 (apply J.look (by rfl) (by rfl); (focus (intro W hW; obtain ⟨hB1, hB2⟩ := hW; obtain ⟨hW1, hW2, -⟩ := read3 hB1; obtain ⟨hW3, hW4, -⟩ := read3 hB2; have hE := hEQ W hB1 hB2; clear hB1 hB2; go_simp; exact HasV.val rfl)); simp only [Act.put, List.setIfInBounds_toArray, List.set_cons_zero, List.set_cons_succ])
    refine J.fin ?_
    clear YB ZB
    go_wp2
    go_ret
    exact ⟨rfl, (Chg.refl _ w).drew⟩
  · have hne : p.b ≠ q.b := fun e => hpq (hnb e)
    obtain ⟨pb, hpb⟩ : ∃ pb, pb = p.b := ⟨_, rfl⟩
    obtain ⟨ps, hps⟩ : ∃ ps, ps = p.stake := ⟨_, rfl⟩
    obtain ⟨pg, hpg⟩ : ∃ pg, pg = p.bag := ⟨_, rfl⟩
    obtain ⟨qb, hqb⟩ : ∃ qb, qb = q.b := ⟨_, rfl⟩
    obtain ⟨qs, hqs⟩ : ∃ qs, qs = q.stake := ⟨_, rfl⟩
    obtain ⟨qg, hqg⟩ : ∃ qg, qg = q.bag := ⟨_, rfl⟩
    obtain ⟨ph, hph⟩ : ∃ ph, ph = p.h := ⟨_, rfl⟩
    obtain ⟨qh, hqh⟩ : ∃ qh, qh = q.h := ⟨_, rfl⟩
    rw [← hpb, ← hps, ← hpg, ← hph] at yb
    rw [← hqb, ← hqs, ← hqg, ← hqh] at zb
    have YB := Lib.hid yb
    have ZB := Lib.hid zb
    rw [← hpb] at hf hne
    rw [← hqb] at hf2 hne
    have hEQ : ∀ W, W.heap[pb]? = some (.cells #[.int .u64 ps, .int .i64 pg, .int .i64 ph] 124 (0, 0)) → W.heap[qb]? = some (.cells #[.int .u64 qs, .int .i64 qg, .int .i64 qh] 124 (0, 0)) → (binOp .eql 119 (.pointer (some ⟨pb, 0, none⟩)) (.pointer (some ⟨qb, 0, none⟩))).run Try.prog W = .ok (.bool false) W := fun W h1 h2 => run_eql_ptr_other (P := Try.prog) (a := ⟨pb, 0, none⟩) (b := ⟨qb, 0, none⟩) W Try.underlying119 hj1 hj2 (fun e => hne (by have := congrArg Addr.block e; simpa using this)) h1 h2
    by_cases hbg : p.bag = q.bag
    · have hle : p.stake ≤ q.stake := by
        rcases hc with h1 | h1 | h1
        · exact absurd h1 hpq
        · exact absurd hbg h1
        · exact h1
      rw [← hps, ← hqs] at hle
      obtain rfl : pg = qg := by rw [hpg, hqg, hbg]
      clear h hk hj hc hnb hpb hps hpg hqb hqs hqg hph hqh yb zb hne hbg hpq hj1 hj2
      go_enter Try.func46, Try.ntmps46
      go_wp2_with fail
      refine hf.mono ?_
      rintro e w' ⟨rfl, hww⟩
      obtain rfl : w = w' := hww.symm
      clear hf
      go_wp2_with fail
      refine hf2.mono ?_
      rintro e w' ⟨rfl, hww⟩
      obtain rfl : w = w' := hww.symm
      clear hf2
      go_wp2_with fail
      refine J.wp_region_seq (fun W => W.heap[pb]? = some (.cells #[.int .u64 ps, .int .i64 pg, .int .i64 ph] 124 (0, 0)) ∧ W.heap[qb]? = some (.cells #[.int .u64 qs, .int .i64 pg, .int .i64 qh] 124 (0, 0))) [(0, 0), (1, 0), (2, 0), (3, 0), (4, 0), (5, 0), (6, 0), (7, 0), (8, 0), (9, 0), (10, 0), (11, 0), (12, 0), (13, 0), (14, 0), (15, 0), (16, 0), (17, 0), (18, 0), (19, 0), (20, 0), (21, 0), (22, 0), (23, 0), (24, 0), (25, 0)] (by kernel_rfl) (by kernel_rfl) (by kernel_rfl) ⟨YB.out, ZB.out⟩ ?_
      iterate 26 (apply J.look (by rfl) (by rfl); (focus (intro W hW; obtain ⟨hB1, hB2⟩ := hW; obtain ⟨hW1, hW2, -⟩ := read3 hB1; obtain ⟨hW3, hW4, -⟩ := read3 hB2; have hE := hEQ W hB1 hB2; clear hB1 hB2; go_simp; exact HasV.val rfl)); simp only [Act.put, List.setIfInBounds_toArray, List.set_cons_zero, List.set_cons_succ])
      refine J.fin ?_
      clear YB ZB hEQ
      go_wp2
      go_ret
      exact ⟨rfl, (Chg.refl _ w).drew⟩
    · have HBN := Lib.hid (show ((pg : Int) != (qg : Int)) = true by simp; omega)
      clear h hk hj hc hnb hpb hps hpg hqb hqs hqg hph hqh yb zb hne hbg hpq hj1 hj2
      go_enter Try.func46, Try.ntmps46
      go_wp2_with fail
      refine hf.mono ?_
      rintro e w' ⟨rfl, hww⟩
      obtain rfl : w = w' := hww.symm
      clear hf
      go_wp2_with fail
      refine hf2.mono ?_
      rintro e w' ⟨rfl, hww⟩
      obtain rfl : w = w' := hww.symm
      clear hf2
      go_wp2_with fail
      refine J.wp_region_seq (fun W => W.heap[pb]? = some (.cells #[.int .u64 ps, .int .i64 pg, .int .i64 ph] 124 (0, 0)) ∧ W.heap[qb]? = some (.cells #[.int .u64 qs, .int .i64 qg, .int .i64 qh] 124 (0, 0))) [(0, 0), (1, 0), (2, 0), (3, 0), (4, 0), (5, 0), (6, 0), (7, 0), (8, 0), (9, 0), (10, 0), (11, 0), (12, 0), (13, 0), (14, 0), (15, 0), (16, 0), (17, 0), (18, 0), (19, 0), (20, 0), (21, 0), (22, 0), (23, 0), (24, 0), (25, 0)] (by kernel_rfl) (by kernel_rfl) (by kernel_rfl) ⟨YB.out, ZB.out⟩ ?_
      iterate 15 (apply J.look (by rfl) (by rfl); (focus (intro W hW; obtain ⟨hB1, hB2⟩ := hW; obtain ⟨hW1, hW2, -⟩ := read3 hB1; obtain ⟨hW3, hW4, -⟩ := read3 hB2; have hNN := HBN.out; have hE := hEQ W hB1 hB2; clear hB1 hB2; go_simp; exact HasV.val rfl)); simp only [Act.put, List.setIfInBounds_toArray, List.set_cons_zero, List.set_cons_succ])
      iterate 9 (apply J.pass (by rfl) (by rfl); simp only [Act.put, List.setIfInBounds_toArray, List.set_cons_zero, List.set_cons_succ])
      iterate 2 (apply J.look (by rfl) (by rfl); (focus (intro W hW; obtain ⟨hB1, hB2⟩ := hW; obtain ⟨hW1, hW2, -⟩ := read3 hB1; obtain ⟨hW3, hW4, -⟩ := read3 hB2; have hNN := HBN.out; have hE := hEQ W hB1 hB2; clear hB1 hB2; go_simp; exact HasV.val rfl)); simp only [Act.put, List.setIfInBounds_toArray, List.set_cons_zero, List.set_cons_succ])
      refine J.fin ?_
      clear YB ZB hEQ
      go_wp2
      go_ret
      exact ⟨rfl, (Chg.refl _ w).drew⟩
end
end Go.Proofs.Ythoagpagnldmeaa.V
