/- The law's Same. -/
import Derived.Test.YthoagpagnldmeaaWu
set_option linter.unusedVariables false
set_option linter.unusedSimpArgs false
namespace Go.Proofs.Ythoagpagnldmeaa.V
open Go.RowKit Go.Ps
set_option maxRecDepth 100000 in
set_option maxHeartbeats 8000000 in
theorem same_v {w0 W : World} {g r : Nat} {tT : Value} {T : List Int} {k : Nat} {bm : Nat} {tv rv : Value} {rows : List (List Vo)} {N : Int} {col : Nat → Nat} {v : Value} (h : SV w0 g r tT T k bm tv rv rows N col v W) (hk : k ≤ 1000) :
    Calls Try.prog 49 #[.pointer (some ⟨g, 0, none⟩), .pointer (some ⟨r, 0, none⟩)] W fun e W' => e = .returned (.bool true) ∧ Chg (fun _ => False) W W' := by
  have hl := h.n2
  have hal := all_list h.vm (wide_rows (by omega)) (by rw [all_len h.vm.ids]; omega)
  obtain ⟨n, hn⟩ : ∃ n, n = rows.flatten.length := ⟨_, rfl⟩
  have HH := Lib.hid (⟨h, hk, hn⟩ : _ ∧ _ ∧ _)
  clear h hk hl hn
  go_enter Try.func49, Try.ntmps49
  go_wp2_with fail
  refine hal.mono ?_
  rintro e w1 ⟨lv, rfl, ho1, hn1, hC1⟩
  obtain ⟨h, hk, hn⟩ := HH.out
  have h1 := h.keep hC1
  have hrl := rows_list h1.vm (wide_rows (by have := h.n2; omega)) (by rw [rows_len h.vm.bags]; have := h.n2; omega)
  have HO1 := Lib.hid (⟨ho1, hC1⟩ : _ ∧ _)
  clear hal h hk hn h1 ho1 hn1 hC1
  go_wp2_with fail
  refine hrl.mono ?_
  rintro e w2 ⟨rw, rfl, ho2, hn2, hC2⟩
  obtain ⟨h, hk, hn⟩ := HH.out
  obtain ⟨ho1, hC1⟩ := HO1.out
  have ho1' := ho1.chg hC2 (fun _ _ f => f)
  obtain ⟨A1, c1, hv1, _, _, _, _⟩ := ho1'.form
  obtain ⟨A2, c2, hv2, _, _, _, _⟩ := ho2.form
  rw [all_len h.vm.ids, ← hn] at hv1
  rw [rows_len h.vm.bags, ← hn] at hv2
  have h2 := (h.keep hC1).keep hC2
  obtain ⟨A3, c3, hv3, _, _, _, _⟩ := h2.rf.own.form
  rw [doc_len, ← hn] at hv3
  obtain ⟨x0, x1⟩ := read2 h2.rf.cell
  rw [hv3] at x1
  have hlen : ∀ V, Chg (fun _ => False) w2 V → Calls Try.prog 52 #[.pointer (some ⟨g, 0, none⟩)] V fun e w' => e = .returned (.int .i64 n) ∧ w' = V := fun V hC => by
    have := len_v (h2.keep hC).vm
    rw [← hn] at this
    exact this
  have HO2 := Lib.hid (⟨ho1', ho2, hv1, hv2, hv3, h2, hC1.trans hC2 (fun _ _ f => f), by have := h.n2; omega⟩ : _ ∧ _ ∧ _ ∧ _ ∧ _ ∧ _ ∧ _ ∧ n ≤ 1000)
  subst hv1 hv2
  have HLN := Lib.hid hlen
  clear hrl h hk hn ho1 hC1 ho1' ho2 hn2 hC2 h2 x0 hv3 hlen
  go_wp2_with fail
  refine J.wp_region_seq (fun W => W.cell? ⟨r, 1, none⟩ = some (.slice A3 n c3) ∧ Chg (fun _ => False) w2 W) [(0, 0), (1, 0), (2, 0), (3, 0), (4, 0), (5, 0), (6, 0), (7, 0), (8, 0), (9, 0), (10, 0), (11, 0), (12, 0), (13, 0), (14, 0), (15, 0), (16, 0), (17, 0), (18, 0), (19, 0), (20, 0), (21, 0), (22, 0), (23, 0), (24, 0), (25, 0), (26, 0), (27, 0)] (by kernel_rfl) (by kernel_rfl) (by kernel_rfl) ⟨x1, (Chg.refl _ w2).drew⟩ ?_
  iterate 20 (apply J.look (by rfl) (by rfl); (focus (intro W hW; obtain ⟨hW1, hW2⟩ := hW; go_simp; exact HasV.val rfl)); simp only [Act.put, List.setIfInBounds_toArray, List.set_cons_zero, List.set_cons_succ])
  apply J.look (v := .int .i64 n) (by rfl) (by rfl)
  focus
    intro W hW
    go_simp
    exact HasV.call (HLN.out W hW.2) (fun _ h => h)
  simp only [Act.put, List.setIfInBounds_toArray, List.set_cons_zero, List.set_cons_succ]
  iterate 7 (apply J.look (by rfl) (by rfl); (focus (intro W hW; obtain ⟨hW1, hW2⟩ := hW; go_simp; exact HasV.val rfl)); simp only [Act.put, List.setIfInBounds_toArray, List.set_cons_zero, List.set_cons_succ])
  refine J.fin ?_
  have HX1 := Lib.hid x1
  go_wp2
  go_loopw [50] (fun i wr => ∃ j : Nat, i = .int .i64 j ∧ j ≤ n ∧ Hid (Chg (fun _ => False) w2 wr)) (fun i _ => n - (intOf i).toNat)
  case atStart => exact ⟨0, rfl, Nat.zero_le _, Lib.hid (Chg.refl _ w2).drew⟩
  case round =>
    obtain ⟨j, rfl, hj, HJ⟩ := hrel
    have x1 := chg_cell HJ.out HX1.out (fun f => f)
    by_cases hjn : j < n
    · obtain ⟨ho1, ho2, -, -, hv3, h2, hCC, hn1000⟩ := HO2.out
      have hn2 : n = rows.flatten.length := HH.out.2.2
      have hol : (ord rows).length = n := by rw [ord_len, hn2]
      obtain ⟨p, hp⟩ : ∃ p, (ord rows)[j]? = some p := ⟨_, List.getElem?_eq_getElem (by omega)⟩
      have hpm : p ∈ rows.flatten := (ord_perm rows).mem_iff.1 (List.mem_of_getElem? hp)
      obtain ⟨g1, cr1, cur1, e1, _, b1, _, _, cc1⟩ := ho1.at_ layZ (0, 0) (by rw [all_len h2.vm.ids]; omega)
      obtain ⟨g2, cr2, cur2, e2, _, b2, _, _, cc2⟩ := ho2.at_ layR (0, 0) (by rw [rows_len h2.vm.bags]; omega)
      obtain ⟨g3, cr3, cur3, e3, _, b3, _, _, cc3⟩ := h2.rf.own.at_ layD d0 (by rw [doc_len]; omega)
      rw [hv3] at e3
      simp only [Value.slice.injEq] at e1 e2 e3
      obtain ⟨rfl, -, rfl⟩ := e1
      obtain ⟨rfl, -, rfl⟩ := e2
      obtain ⟨rfl, -, rfl⟩ := e3
      have ga : (allOf rows).getD j (0, 0) = (p.id, p.stake) := by rw [all_ord h2.vm.ids, List.getD_eq_getElem?_getD, List.getElem?_map, hp]; rfl
      have gr : (rowsOf rows).getD j (0, 0) = (p.id, (p.bag : Int)) := by rw [rowsOf_ord h2.vm.bags, List.getD_eq_getElem?_getD, List.getElem?_map, hp]; rfl
      have gd : (docOf rows).getD j d0 = toD p := by unfold docOf; rw [List.getD_eq_getElem?_getD, List.getElem?_map, hp]; rfl
      obtain ⟨id, hid⟩ : ∃ id, id = p.id := ⟨_, rfl⟩
      obtain ⟨st, hst⟩ : ∃ st, st = p.stake := ⟨_, rfl⟩
      obtain ⟨bg, hbg⟩ : ∃ bg, bg = p.bag := ⟨_, rfl⟩
      have B1 := chg_heap0 HJ.out b1
      have B2 := chg_heap0 HJ.out b2
      have B3 := chg_heap0 HJ.out b3
      have k10 := cc1 j 0 (by rw [all_len h2.vm.ids]; omega) (by omega)
      have k11 := cc1 j 1 (by rw [all_len h2.vm.ids]; omega) (by omega)
      have k20 := cc2 j 0 (by rw [rows_len h2.vm.bags]; omega) (by omega)
      have k22 := cc2 j 2 (by rw [rows_len h2.vm.bags]; omega) (by omega)
      have k30 := cc3 j 0 (by rw [doc_len]; omega) (by omega)
      have k31 := cc3 j 1 (by rw [doc_len]; omega) (by omega)
      have k32 := cc3 j 2 (by rw [doc_len]; omega) (by omega)
      rw [ga, ← hid, ← hst] at k10 k11
      rw [gr, ← hid, ← hbg] at k20 k22
      rw [gd] at k30 k31 k32
      unfold toD at k30 k31 k32
      rw [← hid, ← hst, ← hbg] at k30 k31 k32
      have m0 : wr.cell? ⟨g3, j * 3, none⟩ = some (.int .i64 id) := cell_of B3 _ k30
      have m1 : wr.cell? ⟨g3, j * 3 + 1, none⟩ = some (.int .u64 st) := cell_of B3 _ k31
      have m2 : wr.cell? ⟨g3, j * 3 + 2, none⟩ = some (.int .i64 bg) := cell_of B3 _ k32
      obtain ⟨x, hx⟩ : ∃ x, x = wr.heap.size := ⟨_, rfl⟩
      obtain ⟨V, hV⟩ : ∃ V, V = wr.alloc (.cells #[.int .i64 id, .int .u64 st, .int .i64 bg] 85) := ⟨_, rfl⟩
      have hVC : Chg (fun _ => False) wr V := by rw [hV]; exact (Chg.refl _ wr).alloc _
      have hb : V.heap[x]? = some (.cells #[.int .i64 id, .int .u64 st, .int .i64 bg] 85 (0, 0)) := by rw [hV, hx]; exact heap_alloc_at _ _
      have y10 : V.cell? ⟨g1, j * 3, none⟩ = some (.int .i64 id) := cell_of (chg_heap0 hVC B1) _ k10
      have y11 : V.cell? ⟨g1, j * 3 + 1, none⟩ = some (.int .u64 st) := cell_of (chg_heap0 hVC B1) _ k11
      have y20 : V.cell? ⟨g2, j * 3, none⟩ = some (.int .i64 id) := cell_of (chg_heap0 hVC B2) _ k20
      have y22 : V.cell? ⟨g2, j * 3 + 2, none⟩ = some (.int .i64 bg) := cell_of (chg_heap0 hVC B2) _ k22
      have hvV := (h2.keep (HJ.out.trans hVC (fun _ _ f => f))).vm
      have hfp := find_nd hvV.ids hpm
      have hba := bag_yes hvV hfp
      have hsa := stake_yes hvV hfp
      rw [← hid, ← hbg] at hba
      rw [← hid, ← hst] at hsa
      obtain ⟨q0, q1, q2⟩ := read3 hb
      have HV := Lib.hid (⟨hV, hx⟩ : _ ∧ _)
      have HVC := Lib.hid ((HJ.out.trans hVC (fun _ _ f => f)).drew)
      have HW := Lib.hid (show wrap64 ((j : Int) + 1) = ((j + 1 : Nat) : Int) by unfold wrap64; omega)
      clear ho1 ho2 hv3 h2 hCC hn2 hol hp hpm b1 b2 b3 cc1 cc2 cc3 ga gr gd hid hst hbg B1 B2 B3 k10 k11 k20 k22 k30 k31 k32 hx hV hVC hb hvV hfp hn1000
      go_upto_region 8 with (fail)
      rw [← HV.out.1, ← HV.out.2]
      clear x1 m0 m1 m2
      go_wp2_with fail
      refine hba.mono ?_
      rintro e w' ⟨rfl, hww⟩
      obtain rfl : V = w' := hww.symm
      clear hba
      go_wp2_with fail
      refine hsa.mono ?_
      rintro e w' ⟨rfl, hww⟩
      obtain rfl : V = w' := hww.symm
      clear hsa
      go_wp2_with fail
      refine J.wp_region_seq (fun W => W.cell? ⟨g1, j * 3, none⟩ = some (.int .i64 id) ∧ W.cell? ⟨g1, j * 3 + 1, none⟩ = some (.int .u64 st) ∧ W.cell? ⟨g2, j * 3, none⟩ = some (.int .i64 id) ∧ W.cell? ⟨g2, j * 3 + 2, none⟩ = some (.int .i64 bg) ∧ W.cell? ⟨x, 0, none⟩ = some (.int .i64 id) ∧ W.cell? ⟨x, 1, none⟩ = some (.int .u64 st) ∧ W.cell? ⟨x, 2, none⟩ = some (.int .i64 bg)) [(0, 0), (1, 0), (2, 0), (3, 0), (4, 0), (5, 0), (6, 0), (7, 0), (8, 0), (9, 0), (10, 0), (11, 0), (12, 0), (13, 0), (14, 0), (15, 0), (16, 0), (17, 0), (18, 0), (19, 0), (20, 0), (21, 0), (22, 0), (23, 0), (24, 0), (25, 0), (26, 0), (27, 0), (28, 0), (29, 0), (30, 0), (31, 0), (32, 0), (33, 0), (34, 0), (35, 0), (36, 0), (37, 0), (38, 0), (39, 0), (40, 0), (41, 0), (42, 0), (43, 0), (44, 0), (45, 0), (46, 0), (47, 0), (48, 0), (49, 0), (50, 0), (51, 0), (52, 0), (53, 0), (54, 0), (55, 0), (56, 0), (57, 0)] (by kernel_rfl) (by kernel_rfl) (by kernel_rfl) ⟨y10, y11, y20, y22, q0, q1, q2⟩ ?_
      iterate 58 (apply J.look (by rfl) (by rfl); (focus (intro W hW; obtain ⟨hW1, hW2, hW3, hW4, hW5, hW6, hW7⟩ := hW; go_simp; exact HasV.val rfl)); simp only [Act.put, List.setIfInBounds_toArray, List.set_cons_zero, List.set_cons_succ])
      refine J.fin ?_
      clear y10 y11 y20 y22 q0 q1 q2
      go_wp2
      go_roundw
      case rel => exact ⟨j + 1, by rw [HW.out], hjn, HVC⟩
      case measure =>
        rw [HW.out]
        simp only [intOf]
        omega
    · obtain rfl : j = n := by omega
      have HF := Lib.hid (HO2.out.2.2.2.2.2.2.1.trans HJ.out (fun _ _ f => f))
      clear x1
      go_wp2
      go_ret
      exact ⟨rfl, HF.out⟩
end Go.Proofs.Ythoagpagnldmeaa.V
