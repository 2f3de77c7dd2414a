/- The law VotersPlay: its walk. -/
import Derived.Test.YthoagpagnldmeaaWv
import Derived.Test.YthoagpagnldmeaaWu
import Derived.Test.YthoagpagnldmeaaWm
set_option linter.unusedVariables false
set_option linter.unusedSimpArgs false
namespace Go.Proofs.Ythoagpagnldmeaa.V
open Go.RowKit Go.Ps
/-- The beginning. -/
theorem start_sv {w w2 : World} {g r : Nat} {T : List Int} {bm : Nat} {tv rv tT : Value} {col : Nat → Nat} (hv : VM w2 g bm tv rv T (List.replicate (T.length + 1) []) 0 col) (hC : Chg (fun _ => False) w w2) (hcol : ∀ k, k < w.heap.size → col k = 0) (hr : r = w2.heap.size) :
    SE w g r tT T 0 (w2.alloc (.cells #[tT, .slice none 0 0] 77)) := by
  have hC2 : Chg (fun _ => False) w2 (w2.alloc (.cells #[tT, .slice none 0 0] 77)) := (Chg.refl _ w2).alloc _
  have hcr : col r = 0 := by
    by_cases hc : col r = 0
    · exact hc
    · have := hv.top hc; omega
  refine ⟨bm, tv, rv, _, 0, col, .slice none 0 0, hv.keep hC2 (fun _ _ f => f.elim), ⟨by rw [hr]; exact heap_alloc_at _ _, ?_, by intro e; cases e⟩, hcr, (fun j hj => by cases hj), by rw [hr]; exact hC.size, (fun j hj => by cases hj), hcol, hC.trans hC2 (fun _ _ f => f), by omega, by simp⟩
  have : docOf (List.replicate (T.length + 1) []) = [] := by
    have := doc_len (List.replicate (T.length + 1) [])
    exact List.eq_nil_of_length_eq_zero (by rw [this]; simp)
  rw [this]
  exact OwnF.nil _ _ _ _
set_option maxRecDepth 100000 in
set_option maxHeartbeats 16000000 in
theorem votersPlay_walk (A0 : Option Addr) (c0 : Nat) (T : List Int) (A1 : Option Addr) (c1 : Nat) (l : List (Int × Int × Int × Int)) (z : Int) (w : World) (hr0 : ReadsI w .u64 A0 T) (u0 : ∀ x ∈ T, (Lit.int .u64 x).wf = true) (y0 : T.length * 8 ≤ 140737488351232)
    (hr1 : Reads4 w .i64 .i64 .i64 .u64 A1 l ∧ ∀ z ∈ l, (Lit.int .i64 z.1).wf = true ∧ (Lit.int .i64 z.2.1).wf = true ∧ (Lit.int .i64 z.2.2.1).wf = true ∧ (Lit.int .u64 z.2.2.2).wf = true) (h2 : (Lit.int .i64 z).wf = true) :
    Calls Try.prog 8 #[.slice A0 T.length c0, .slice A1 l.length c1, .int .i64 z] w fun e w' => e = .returned (.bool true) ∧ Below w.heap.size w w' := by
  obtain ⟨n, hn⟩ : ∃ n, n = T.length := ⟨_, rfl⟩
  obtain ⟨m, hm⟩ : ∃ m, m = l.length := ⟨_, rfl⟩
  have HH := Lib.hid (⟨hn, hm, hr0, hr1.1⟩ : _ ∧ _ ∧ _ ∧ _)
  rw [← hn, ← hm]
  clear hn hm hr0 hr1 u0 y0
  go_enter Try.func8, Try.ntmps8
  go_wp2_with fail
  refine (awake_any _).mono ?_
  rintro e w1 ⟨rfl, hC⟩
  have HC := Lib.hid hC
  clear hC
  by_cases hnb : 200 < n
  · have hnb2 : (200 : Int) < n := by omega
    go_wp2_with fail
    refine (awake_any _).mono ?_
    rintro e w2 ⟨rfl, hC⟩
    have HC2 := Lib.hid (HC.out.trans hC (fun _ _ f => f))
    clear hC
    go_wp2
    go_ret
    exact ⟨rfl, HC2.out.below (fun k hk => ⟨hk, id⟩)⟩
  by_cases hmb : 200 < m
  · have hnb2 : ¬ (200 : Int) < n := by omega
    have hmb2 : (200 : Int) < m := by omega
    go_wp2_with fail
    refine (awake_any _).mono ?_
    rintro e w2 ⟨rfl, hC⟩
    have HC2 := Lib.hid (HC.out.trans hC (fun _ _ f => f))
    clear hC
    go_wp2
    go_ret
    exact ⟨rfl, HC2.out.below (fun k hk => ⟨hk, id⟩)⟩
  have hnb2 : ¬ (200 : Int) < n := by omega
  have hmb2 : ¬ (200 : Int) < m := by omega
  by_cases hR : Ris T ∧ T.length ≤ 100
  · have hnew := new_yes (w := w1) (A := A0) c0 (HH.out.2.2.1.chg HC.out (fun _ _ f => f)) hR.1 hR.2
    rw [← HH.out.1] at hnew
    have HRR := Lib.hid hR
    clear hR
    go_wp2_with fail
    refine hnew.mono ?_
    rintro e w2 ⟨g, bm, tv, rv, col, rfl, hv, hC, hcol⟩
    have hris := rising_any (w := w2) (A := A0) (T := T) c0 (by have := HH.out.1; omega) (HH.out.2.2.1.chg (HC.out.trans hC (fun _ _ f => f)) (fun _ _ f => f))
    rw [← HH.out.1] at hris
    have HI0 := Lib.hid (⟨hv, HC.out.trans hC (fun _ _ f => f), fun j (hj : j < w.heap.size) => hcol j (Nat.lt_of_lt_of_le hj HC.out.size)⟩ : _ ∧ _ ∧ _)
    clear hv hC hcol hnew
    go_wp2_with fail
    refine hris.mono ?_
    rintro e w3 ⟨b0, rfl, hC3, hb0⟩
    have hbt : b0 = true := hb0.2 HRR.out
    subst hbt
    obtain ⟨r, hr⟩ : ∃ r, r = w3.heap.size := ⟨_, rfl⟩
    obtain ⟨V0, hV0⟩ : ∃ V0, V0 = w3.alloc (.cells #[.slice A0 n c0, .slice none 0 0] 77) := ⟨_, rfl⟩
    have hI : SE w g r (.slice A0 n c0) T 0 V0 := by
      obtain ⟨hv, hC, hcol⟩ := HI0.out
      rw [hV0]
      exact start_sv (hv.keep hC3 (fun _ _ f => f.elim)) (hC.trans hC3 (fun _ _ f => f)) hcol hr
    have HI := Lib.hid hI
    have HV0 := Lib.hid (⟨hV0, hr⟩ : _ ∧ _)
    clear hI hV0 hr hris hb0 hC3
    go_upto_region 7 with (fail)
    rw [← HV0.out.1, ← HV0.out.2]
    go_wp2
    go_loopw [49] (fun i wr => ∃ k : Nat, i = .int .i64 k ∧ k ≤ m ∧ Hid (SE w g r (.slice A0 n c0) T k wr)) (fun i _ => m - (intOf i).toNat)
    case atStart => exact ⟨0, rfl, Nat.zero_le _, HI⟩
    case round =>
      obtain ⟨k, rfl, hk, HK⟩ := hrel
      obtain ⟨bm, tv, rv, rows, N, col, v, hs⟩ := HK.out
      by_cases hkm : k < m
      · obtain ⟨hn, hm, hr0, hr1⟩ := HH.out
        obtain ⟨bb, off, rfl, hblt, hcell⟩ := hr1 (by rintro rfl; simp at hm; omega)
        obtain ⟨p0, p1, p2, p3⟩ := hcell k (by omega)
        obtain ⟨y, hy⟩ : ∃ y, y = l.getD k d4 := ⟨_, rfl⟩
        rw [← hy] at p0 p1 p2 p3
        have hbl : Below w.heap.size w wr := hs.bl.below (fun j hj => ⟨hj, fun f => f⟩)
        obtain ⟨kd, hkd⟩ : ∃ q, q = y.1 := ⟨_, rfl⟩
        obtain ⟨a, ha⟩ : ∃ q, q = y.2.1 := ⟨_, rfl⟩
        obtain ⟨b, hb⟩ : ∃ q, q = y.2.2.1 := ⟨_, rfl⟩
        obtain ⟨st, hst⟩ : ∃ q, q = y.2.2.2 := ⟨_, rfl⟩
        rw [← hkd] at p0
        rw [← ha] at p1
        rw [← hb] at p2
        rw [← hst] at p3
        have s0 := (hbl.cell (p := ⟨bb, off + k * 4, none⟩) hblt).trans p0
        have s1 := (hbl.cell (p := ⟨bb, off + k * 4 + 1, none⟩) hblt).trans p1
        have s2 := (hbl.cell (p := ⟨bb, off + k * 4 + 2, none⟩) hblt).trans p2
        have s3 := (hbl.cell (p := ⟨bb, off + k * 4 + 3, none⟩) hblt).trans p3
        have HB := Lib.hid (⟨hkm, by omega⟩ : k < m ∧ k < 200)
        have HW := Lib.hid (show wrap64 ((k : Int) + 1) = ((k + 1 : Nat) : Int) by unfold wrap64; omega)
        obtain ⟨x, hx⟩ : ∃ x, x = wr.heap.size := ⟨_, rfl⟩
        obtain ⟨V, hV⟩ : ∃ V, V = wr.alloc (.cells #[.int .i64 kd, .int .i64 a, .int .i64 b, .int .u64 st] 79) := ⟨_, rfl⟩
        have hVC : Chg (fun _ => False) wr V := by rw [hV]; exact (Chg.refl _ wr).alloc _
        have hb4 : V.heap[x]? = some (.cells #[.int .i64 kd, .int .i64 a, .int .i64 b, .int .u64 st] 79 (0, 0)) := by rw [hV, hx]; exact heap_alloc_at _ _
        obtain ⟨q0, q1, q2, q3⟩ := read4 hb4
        have hcx : col x = 0 := by
          by_cases hc : col x = 0
          · exact hc
          · have := hs.vm.top hc; omega
        have hxr : x ≠ r := by have := heap_lt hs.rf.cell; omega
        have HSV := Lib.hid (hs.keep hVC)
        have HS := Lib.hid (⟨(hs.keep hVC).keep (Chg.refl (fun _ => False) V).drew, hcx, hxr, (heap_lt hb4 : x < V.drew.heap.size), (hb4 : V.drew.heap[x]? = _)⟩ : _ ∧ _ ∧ _ ∧ _ ∧ _)
        have HV := Lib.hid (⟨hV, hx⟩ : _ ∧ _)
        clear hn hm hr0 hr1 hcell p0 p1 p2 p3 hy hkd ha hb hst hk hblt hx hVC hV hbl hcx hxr hs
        go_upto_region 12 with (fail)
        rw [← HV.out.1, ← HV.out.2]
        clear s0 s1 s2 s3
        have HB4 := Lib.hid hb4
        clear hb4
        by_cases k1 : kd = 1
        · subst k1
          obtain ⟨code, M, hc1, hc2⟩ := pair_ins a st HS.out.1 (by have := HB.out.2; omega) HS.out.2.1 HS.out.2.2.1 HS.out.2.2.2.1 rfl HH.out.1 HH.out.2.2.1
          have HC2 := Lib.hid hc2
          have HC1 := Lib.hid hc1
          clear hc1 hc2
          go_wp2_with fail
          refine J.wp_region_seq (fun W => W.heap[x]? = some (.cells #[.int .i64 1, .int .i64 a, .int .i64 b, .int .u64 st] 79 (0, 0))) [(0, 0), (1, 0), (2, 0), (3, 0), (4, 0), (6, 0), (7, 0), (8, 0), (9, 0), (10, 0), (5, 1), (11, 1), (12, 0), (13, 0)] (by kernel_rfl) (by kernel_rfl) (by kernel_rfl) HS.out.2.2.2.2 ?_
          iterate 10 (apply J.look (by rfl) (by rfl); (focus (intro W hW; have hW4 := read4 hW; obtain ⟨hW1, hW2, hW3, hW4⟩ := hW4; go_simp; exact HasV.val rfl)); simp only [Act.put, List.setIfInBounds_toArray, List.set_cons_zero, List.set_cons_succ])
          refine J.link (fun u W1 => u = .int .i64 code ∧ M W1 ∧ W1.heap[x]? = V.drew.heap[x]?) (by rfl) (by rfl) ?_ (fun u W1 hR => hR.2.2.trans HS.out.2.2.2.2) ?_
          · go_simp
            refine J.HasR.call (HC1.out.mono ?_)
            rintro e W1 ⟨rfl, hM, hbk⟩
            exact ⟨_, rfl, rfl, hM, hbk⟩
          rintro u W1 ⟨rfl, hM, hbk⟩
          simp only [Act.put, List.setIfInBounds_toArray, List.set_cons_zero, List.set_cons_succ]
          have hc2 := HC2.out W1 hM
          have HBK := Lib.hid (hbk.trans HS.out.2.2.2.2)
          clear hM hbk
          refine J.link (fun u W2 => u = .int .i64 code ∧ SE w g r (.slice A0 n c0) T (k + 1) W2 ∧ W2.heap[x]? = W1.heap[x]?) (by rfl) (by rfl) ?_ (fun u W2 hR => hR.2.2.trans HBK.out) ?_
          · go_simp
            refine J.HasR.call (hc2.mono ?_)
            rintro e W2 ⟨rfl, hM, hbk⟩
            exact ⟨_, rfl, rfl, hM, hbk⟩
          rintro u W2 ⟨rfl, hM, hbk⟩
          simp only [Act.put, List.setIfInBounds_toArray, List.set_cons_zero, List.set_cons_succ]
          have HS2 := Lib.hid (⟨hM, hbk.trans HBK.out⟩ : _ ∧ _)
          clear hM hbk hc2 HBK HC1 HC2 q0 q1 q2 q3
          iterate 2 (apply J.look (by rfl) (by rfl); (focus (intro W hW; skip; go_simp; exact HasV.val rfl)); simp only [Act.put, List.setIfInBounds_toArray, List.set_cons_zero, List.set_cons_succ])
          refine J.fin ?_
          obtain ⟨bm2, tv2, rv2, rows2, N2, col2, v2, hs2⟩ := HS2.out.1
          have hbx := HS2.out.2
          have q2 := (read4 hbx).2.2.1
          have hsame := same_v hs2 (by have := HB.out.2; omega)
          have hd2 := doc_nd hs2.vm.ids
          have hl2 := hs2.dlen (by have := HB.out.2; omega)
          cases hf2 : findV rows2 b with
          | none =>
            have hbag := bag_no hs2.vm hf2
            have HQ := Lib.hid (⟨hs2, hbx, hl2, hf2⟩ : _ ∧ _ ∧ _ ∧ _)
            clear hs2 hbx hd2 hl2 hf2
            go_wp2_with fail
            refine hbag.mono ?_
            rintro e w' ⟨rfl, hww⟩
            obtain rfl : W2 = w' := hww.symm
            clear hbag q2
            go_wp2_with fail
            refine hsame.mono ?_
            rintro e W3 ⟨rfl, hC3⟩
            obtain ⟨hs2, hbx, hl2, hf2⟩ := HQ.out
            have hs3 := hs2.keep hC3
            have q3 := (read4 (chg_heap0 hC3 hbx)).2.2.1
            have hfn := rfind_no (id := b) hs3.rf hl2 (doc_no hf2)
            have HP := Lib.hid (show SE w g r (.slice A0 n c0) T (k + 1) W3 from ⟨_, _, _, _, _, _, _, hs3⟩)
            clear hsame hC3 hs2 hbx hl2 hf2 hs3
            go_wp2_with fail
            refine hfn.mono ?_
            rintro e w' ⟨rfl, hww⟩
            obtain rfl : W3 = w' := hww.symm
            clear hfn q3
            go_wp2
            go_roundw
            case rel => exact ⟨k + 1, by first | rw [HW.out] | go_num, HB.out.1, HP⟩
            case measure =>
              have h1 := HB.out.1
              try rw [HW.out]
              simp only [intOf]
              omega
          | some p2 =>
            have hbag := bag_yes hs2.vm hf2
            obtain ⟨pb, hpb⟩ : ∃ pb, pb = p2.bag := ⟨_, rfl⟩
            rw [← hpb] at hbag
            have HQ := Lib.hid (⟨hs2, hbx, hl2, hf2, hd2⟩ : _ ∧ _ ∧ _ ∧ _ ∧ _)
            clear hs2 hbx hd2 hl2 hf2 hpb
            go_wp2_with fail
            refine hbag.mono ?_
            rintro e w' ⟨rfl, hww⟩
            obtain rfl : W2 = w' := hww.symm
            clear hbag q2
            go_wp2_with fail
            refine hsame.mono ?_
            rintro e W3 ⟨rfl, hC3⟩
            obtain ⟨hs2, hbx, hl2, hf2, hd2⟩ := HQ.out
            have hs3 := hs2.keep hC3
            have q3 := (read4 (chg_heap0 hC3 hbx)).2.2.1
            obtain ⟨k3, hk3, e3⟩ := List.mem_iff_getElem.1 (doc_yes hf2).1
            have hfn := rfind_idx (k := k3) hs3.rf hl2 (by rw [List.getElem?_eq_getElem hk3, e3]) hd2
            rw [show (toD p2).1 = b from (findV_some hf2).2] at hfn
            have HP := Lib.hid (show SE w g r (.slice A0 n c0) T (k + 1) W3 from ⟨_, _, _, _, _, _, _, hs3⟩)
            clear hsame hC3 hs2 hbx hl2 hf2 hs3 hd2 hk3 e3
            go_wp2_with fail
            refine hfn.mono ?_
            rintro e w' ⟨rfl, hww⟩
            obtain rfl : W3 = w' := hww.symm
            clear hfn q3
            go_wp2
            go_roundw
            case rel => exact ⟨k + 1, by first | rw [HW.out] | go_num, HB.out.1, HP⟩
            case measure =>
              have h1 := HB.out.1
              try rw [HW.out]
              simp only [intOf]
              omega
        by_cases k2 : kd = 2
        · subst k2
          obtain ⟨code, M, hc1, hc2⟩ := pair_rem a HS.out.1 (by have := HB.out.2; omega) HS.out.2.1 HS.out.2.2.1 HS.out.2.2.2.1
          have HC2 := Lib.hid hc2
          have HC1 := Lib.hid hc1
          clear hc1 hc2
          go_wp2_with fail
          refine J.wp_region_seq (fun W => W.heap[x]? = some (.cells #[.int .i64 2, .int .i64 a, .int .i64 b, .int .u64 st] 79 (0, 0))) [(0, 0), (1, 0), (2, 0), (4, 0), (5, 0), (6, 0), (3, 1), (7, 1), (8, 0), (9, 0)] (by kernel_rfl) (by kernel_rfl) (by kernel_rfl) HS.out.2.2.2.2 ?_
          iterate 6 (apply J.look (by rfl) (by rfl); (focus (intro W hW; have hW4 := read4 hW; obtain ⟨hW1, hW2, hW3, hW4⟩ := hW4; go_simp; exact HasV.val rfl)); simp only [Act.put, List.setIfInBounds_toArray, List.set_cons_zero, List.set_cons_succ])
          refine J.link (fun u W1 => u = .int .i64 code ∧ M W1 ∧ W1.heap[x]? = V.drew.heap[x]?) (by rfl) (by rfl) ?_ (fun u W1 hR => hR.2.2.trans HS.out.2.2.2.2) ?_
          · go_simp
            refine J.HasR.call (HC1.out.mono ?_)
            rintro e W1 ⟨rfl, hM, hbk⟩
            exact ⟨_, rfl, rfl, hM, hbk⟩
          rintro u W1 ⟨rfl, hM, hbk⟩
          simp only [Act.put, List.setIfInBounds_toArray, List.set_cons_zero, List.set_cons_succ]
          have hc2 := HC2.out W1 hM
          have HBK := Lib.hid (hbk.trans HS.out.2.2.2.2)
          clear hM hbk
          refine J.link (fun u W2 => u = .int .i64 code ∧ SE w g r (.slice A0 n c0) T (k + 1) W2 ∧ W2.heap[x]? = W1.heap[x]?) (by rfl) (by rfl) ?_ (fun u W2 hR => hR.2.2.trans HBK.out) ?_
          · go_simp
            refine J.HasR.call (hc2.mono ?_)
            rintro e W2 ⟨rfl, hM, hbk⟩
            exact ⟨_, rfl, rfl, hM, hbk⟩
          rintro u W2 ⟨rfl, hM, hbk⟩
          simp only [Act.put, List.setIfInBounds_toArray, List.set_cons_zero, List.set_cons_succ]
          have HS2 := Lib.hid (⟨hM, hbk.trans HBK.out⟩ : _ ∧ _)
          clear hM hbk hc2 HBK HC1 HC2 q0 q1 q2 q3
          iterate 2 (apply J.look (by rfl) (by rfl); (focus (intro W hW; skip; go_simp; exact HasV.val rfl)); simp only [Act.put, List.setIfInBounds_toArray, List.set_cons_zero, List.set_cons_succ])
          refine J.fin ?_
          obtain ⟨bm2, tv2, rv2, rows2, N2, col2, v2, hs2⟩ := HS2.out.1
          have hbx := HS2.out.2
          have q2 := (read4 hbx).2.2.1
          have hsame := same_v hs2 (by have := HB.out.2; omega)
          have hd2 := doc_nd hs2.vm.ids
          have hl2 := hs2.dlen (by have := HB.out.2; omega)
          cases hf2 : findV rows2 b with
          | none =>
            have hbag := bag_no hs2.vm hf2
            have HQ := Lib.hid (⟨hs2, hbx, hl2, hf2⟩ : _ ∧ _ ∧ _ ∧ _)
            clear hs2 hbx hd2 hl2 hf2
            go_wp2_with fail
            refine hbag.mono ?_
            rintro e w' ⟨rfl, hww⟩
            obtain rfl : W2 = w' := hww.symm
            clear hbag q2
            go_wp2_with fail
            refine hsame.mono ?_
            rintro e W3 ⟨rfl, hC3⟩
            obtain ⟨hs2, hbx, hl2, hf2⟩ := HQ.out
            have hs3 := hs2.keep hC3
            have q3 := (read4 (chg_heap0 hC3 hbx)).2.2.1
            have hfn := rfind_no (id := b) hs3.rf hl2 (doc_no hf2)
            have HP := Lib.hid (show SE w g r (.slice A0 n c0) T (k + 1) W3 from ⟨_, _, _, _, _, _, _, hs3⟩)
            clear hsame hC3 hs2 hbx hl2 hf2 hs3
            go_wp2_with fail
            refine hfn.mono ?_
            rintro e w' ⟨rfl, hww⟩
            obtain rfl : W3 = w' := hww.symm
            clear hfn q3
            go_wp2
            go_roundw
            case rel => exact ⟨k + 1, by first | rw [HW.out] | go_num, HB.out.1, HP⟩
            case measure =>
              have h1 := HB.out.1
              try rw [HW.out]
              simp only [intOf]
              omega
          | some p2 =>
            have hbag := bag_yes hs2.vm hf2
            obtain ⟨pb, hpb⟩ : ∃ pb, pb = p2.bag := ⟨_, rfl⟩
            rw [← hpb] at hbag
            have HQ := Lib.hid (⟨hs2, hbx, hl2, hf2, hd2⟩ : _ ∧ _ ∧ _ ∧ _ ∧ _)
            clear hs2 hbx hd2 hl2 hf2 hpb
            go_wp2_with fail
            refine hbag.mono ?_
            rintro e w' ⟨rfl, hww⟩
            obtain rfl : W2 = w' := hww.symm
            clear hbag q2
            go_wp2_with fail
            refine hsame.mono ?_
            rintro e W3 ⟨rfl, hC3⟩
            obtain ⟨hs2, hbx, hl2, hf2, hd2⟩ := HQ.out
            have hs3 := hs2.keep hC3
            have q3 := (read4 (chg_heap0 hC3 hbx)).2.2.1
            obtain ⟨k3, hk3, e3⟩ := List.mem_iff_getElem.1 (doc_yes hf2).1
            have hfn := rfind_idx (k := k3) hs3.rf hl2 (by rw [List.getElem?_eq_getElem hk3, e3]) hd2
            rw [show (toD p2).1 = b from (findV_some hf2).2] at hfn
            have HP := Lib.hid (show SE w g r (.slice A0 n c0) T (k + 1) W3 from ⟨_, _, _, _, _, _, _, hs3⟩)
            clear hsame hC3 hs2 hbx hl2 hf2 hs3 hd2 hk3 e3
            go_wp2_with fail
            refine hfn.mono ?_
            rintro e w' ⟨rfl, hww⟩
            obtain rfl : W3 = w' := hww.symm
            clear hfn q3
            go_wp2
            go_roundw
            case rel => exact ⟨k + 1, by first | rw [HW.out] | go_num, HB.out.1, HP⟩
            case measure =>
              have h1 := HB.out.1
              try rw [HW.out]
              simp only [intOf]
              omega
        by_cases k3 : kd = 3
        · subst k3
          obtain ⟨code, M, hc1, hc2⟩ := pair_upd a st HS.out.1 (by have := HB.out.2; omega) HS.out.2.1 HS.out.2.2.1 HS.out.2.2.2.1
          have HC2 := Lib.hid hc2
          have HC1 := Lib.hid hc1
          clear hc1 hc2
          go_wp2_with fail
          refine J.wp_region_seq (fun W => W.heap[x]? = some (.cells #[.int .i64 3, .int .i64 a, .int .i64 b, .int .u64 st] 79 (0, 0))) [(0, 0), (1, 0), (2, 0), (3, 0), (4, 0), (6, 0), (7, 0), (8, 0), (9, 0), (10, 0), (5, 1), (11, 1), (12, 0), (13, 0)] (by kernel_rfl) (by kernel_rfl) (by kernel_rfl) HS.out.2.2.2.2 ?_
          iterate 10 (apply J.look (by rfl) (by rfl); (focus (intro W hW; have hW4 := read4 hW; obtain ⟨hW1, hW2, hW3, hW4⟩ := hW4; go_simp; exact HasV.val rfl)); simp only [Act.put, List.setIfInBounds_toArray, List.set_cons_zero, List.set_cons_succ])
          refine J.link (fun u W1 => u = .int .i64 code ∧ M W1 ∧ W1.heap[x]? = V.drew.heap[x]?) (by rfl) (by rfl) ?_ (fun u W1 hR => hR.2.2.trans HS.out.2.2.2.2) ?_
          · go_simp
            refine J.HasR.call (HC1.out.mono ?_)
            rintro e W1 ⟨rfl, hM, hbk⟩
            exact ⟨_, rfl, rfl, hM, hbk⟩
          rintro u W1 ⟨rfl, hM, hbk⟩
          simp only [Act.put, List.setIfInBounds_toArray, List.set_cons_zero, List.set_cons_succ]
          have hc2 := HC2.out W1 hM
          have HBK := Lib.hid (hbk.trans HS.out.2.2.2.2)
          clear hM hbk
          refine J.link (fun u W2 => u = .int .i64 code ∧ SE w g r (.slice A0 n c0) T (k + 1) W2 ∧ W2.heap[x]? = W1.heap[x]?) (by rfl) (by rfl) ?_ (fun u W2 hR => hR.2.2.trans HBK.out) ?_
          · go_simp
            refine J.HasR.call (hc2.mono ?_)
            rintro e W2 ⟨rfl, hM, hbk⟩
            exact ⟨_, rfl, rfl, hM, hbk⟩
          rintro u W2 ⟨rfl, hM, hbk⟩
          simp only [Act.put, List.setIfInBounds_toArray, List.set_cons_zero, List.set_cons_succ]
          have HS2 := Lib.hid (⟨hM, hbk.trans HBK.out⟩ : _ ∧ _)
          clear hM hbk hc2 HBK HC1 HC2 q0 q1 q2 q3
          iterate 2 (apply J.look (by rfl) (by rfl); (focus (intro W hW; skip; go_simp; exact HasV.val rfl)); simp only [Act.put, List.setIfInBounds_toArray, List.set_cons_zero, List.set_cons_succ])
          refine J.fin ?_
          obtain ⟨bm2, tv2, rv2, rows2, N2, col2, v2, hs2⟩ := HS2.out.1
          have hbx := HS2.out.2
          have q2 := (read4 hbx).2.2.1
          have hsame := same_v hs2 (by have := HB.out.2; omega)
          have hd2 := doc_nd hs2.vm.ids
          have hl2 := hs2.dlen (by have := HB.out.2; omega)
          cases hf2 : findV rows2 b with
          | none =>
            have hbag := bag_no hs2.vm hf2
            have HQ := Lib.hid (⟨hs2, hbx, hl2, hf2⟩ : _ ∧ _ ∧ _ ∧ _)
            clear hs2 hbx hd2 hl2 hf2
            go_wp2_with fail
            refine hbag.mono ?_
            rintro e w' ⟨rfl, hww⟩
            obtain rfl : W2 = w' := hww.symm
            clear hbag q2
            go_wp2_with fail
            refine hsame.mono ?_
            rintro e W3 ⟨rfl, hC3⟩
            obtain ⟨hs2, hbx, hl2, hf2⟩ := HQ.out
            have hs3 := hs2.keep hC3
            have q3 := (read4 (chg_heap0 hC3 hbx)).2.2.1
            have hfn := rfind_no (id := b) hs3.rf hl2 (doc_no hf2)
            have HP := Lib.hid (show SE w g r (.slice A0 n c0) T (k + 1) W3 from ⟨_, _, _, _, _, _, _, hs3⟩)
            clear hsame hC3 hs2 hbx hl2 hf2 hs3
            go_wp2_with fail
            refine hfn.mono ?_
            rintro e w' ⟨rfl, hww⟩
            obtain rfl : W3 = w' := hww.symm
            clear hfn q3
            go_wp2
            go_roundw
            case rel => exact ⟨k + 1, by first | rw [HW.out] | go_num, HB.out.1, HP⟩
            case measure =>
              have h1 := HB.out.1
              try rw [HW.out]
              simp only [intOf]
              omega
          | some p2 =>
            have hbag := bag_yes hs2.vm hf2
            obtain ⟨pb, hpb⟩ : ∃ pb, pb = p2.bag := ⟨_, rfl⟩
            rw [← hpb] at hbag
            have HQ := Lib.hid (⟨hs2, hbx, hl2, hf2, hd2⟩ : _ ∧ _ ∧ _ ∧ _ ∧ _)
            clear hs2 hbx hd2 hl2 hf2 hpb
            go_wp2_with fail
            refine hbag.mono ?_
            rintro e w' ⟨rfl, hww⟩
            obtain rfl : W2 = w' := hww.symm
            clear hbag q2
            go_wp2_with fail
            refine hsame.mono ?_
            rintro e W3 ⟨rfl, hC3⟩
            obtain ⟨hs2, hbx, hl2, hf2, hd2⟩ := HQ.out
            have hs3 := hs2.keep hC3
            have q3 := (read4 (chg_heap0 hC3 hbx)).2.2.1
            obtain ⟨k3, hk3, e3⟩ := List.mem_iff_getElem.1 (doc_yes hf2).1
            have hfn := rfind_idx (k := k3) hs3.rf hl2 (by rw [List.getElem?_eq_getElem hk3, e3]) hd2
            rw [show (toD p2).1 = b from (findV_some hf2).2] at hfn
            have HP := Lib.hid (show SE w g r (.slice A0 n c0) T (k + 1) W3 from ⟨_, _, _, _, _, _, _, hs3⟩)
            clear hsame hC3 hs2 hbx hl2 hf2 hs3 hd2 hk3 e3
            go_wp2_with fail
            refine hfn.mono ?_
            rintro e w' ⟨rfl, hww⟩
            obtain rfl : W3 = w' := hww.symm
            clear hfn q3
            go_wp2
            go_roundw
            case rel => exact ⟨k + 1, by first | rw [HW.out] | go_num, HB.out.1, HP⟩
            case measure =>
              have h1 := HB.out.1
              try rw [HW.out]
              simp only [intOf]
              omega
        by_cases k4 : kd = 4
        · subst k4
          obtain ⟨code, M, hc1, hc2⟩ := pair_reb a HS.out.1 (by have := HB.out.2; omega) HS.out.2.1 HS.out.2.2.1 HS.out.2.2.2.1 rfl HH.out.1 HH.out.2.2.1
          have HC2 := Lib.hid hc2
          have HC1 := Lib.hid hc1
          clear hc1 hc2
          go_wp2_with fail
          refine J.wp_region_seq (fun W => W.heap[x]? = some (.cells #[.int .i64 4, .int .i64 a, .int .i64 b, .int .u64 st] 79 (0, 0))) [(0, 0), (1, 0), (2, 0), (4, 0), (5, 0), (6, 0), (3, 1), (7, 1), (8, 0), (9, 0)] (by kernel_rfl) (by kernel_rfl) (by kernel_rfl) HS.out.2.2.2.2 ?_
          iterate 6 (apply J.look (by rfl) (by rfl); (focus (intro W hW; have hW4 := read4 hW; obtain ⟨hW1, hW2, hW3, hW4⟩ := hW4; go_simp; exact HasV.val rfl)); simp only [Act.put, List.setIfInBounds_toArray, List.set_cons_zero, List.set_cons_succ])
          refine J.link (fun u W1 => u = .int .i64 code ∧ M W1 ∧ W1.heap[x]? = V.drew.heap[x]?) (by rfl) (by rfl) ?_ (fun u W1 hR => hR.2.2.trans HS.out.2.2.2.2) ?_
          · go_simp
            refine J.HasR.call (HC1.out.mono ?_)
            rintro e W1 ⟨rfl, hM, hbk⟩
            exact ⟨_, rfl, rfl, hM, hbk⟩
          rintro u W1 ⟨rfl, hM, hbk⟩
          simp only [Act.put, List.setIfInBounds_toArray, List.set_cons_zero, List.set_cons_succ]
          have hc2 := HC2.out W1 hM
          have HBK := Lib.hid (hbk.trans HS.out.2.2.2.2)
          clear hM hbk
          refine J.link (fun u W2 => u = .int .i64 code ∧ SE w g r (.slice A0 n c0) T (k + 1) W2 ∧ W2.heap[x]? = W1.heap[x]?) (by rfl) (by rfl) ?_ (fun u W2 hR => hR.2.2.trans HBK.out) ?_
          · go_simp
            refine J.HasR.call (hc2.mono ?_)
            rintro e W2 ⟨rfl, hM, hbk⟩
            exact ⟨_, rfl, rfl, hM, hbk⟩
          rintro u W2 ⟨rfl, hM, hbk⟩
          simp only [Act.put, List.setIfInBounds_toArray, List.set_cons_zero, List.set_cons_succ]
          have HS2 := Lib.hid (⟨hM, hbk.trans HBK.out⟩ : _ ∧ _)
          clear hM hbk hc2 HBK HC1 HC2 q0 q1 q2 q3
          iterate 2 (apply J.look (by rfl) (by rfl); (focus (intro W hW; skip; go_simp; exact HasV.val rfl)); simp only [Act.put, List.setIfInBounds_toArray, List.set_cons_zero, List.set_cons_succ])
          refine J.fin ?_
          obtain ⟨bm2, tv2, rv2, rows2, N2, col2, v2, hs2⟩ := HS2.out.1
          have hbx := HS2.out.2
          have q2 := (read4 hbx).2.2.1
          have hsame := same_v hs2 (by have := HB.out.2; omega)
          have hd2 := doc_nd hs2.vm.ids
          have hl2 := hs2.dlen (by have := HB.out.2; omega)
          cases hf2 : findV rows2 b with
          | none =>
            have hbag := bag_no hs2.vm hf2
            have HQ := Lib.hid (⟨hs2, hbx, hl2, hf2⟩ : _ ∧ _ ∧ _ ∧ _)
            clear hs2 hbx hd2 hl2 hf2
            go_wp2_with fail
            refine hbag.mono ?_
            rintro e w' ⟨rfl, hww⟩
            obtain rfl : W2 = w' := hww.symm
            clear hbag q2
            go_wp2_with fail
            refine hsame.mono ?_
            rintro e W3 ⟨rfl, hC3⟩
            obtain ⟨hs2, hbx, hl2, hf2⟩ := HQ.out
            have hs3 := hs2.keep hC3
            have q3 := (read4 (chg_heap0 hC3 hbx)).2.2.1
            have hfn := rfind_no (id := b) hs3.rf hl2 (doc_no hf2)
            have HP := Lib.hid (show SE w g r (.slice A0 n c0) T (k + 1) W3 from ⟨_, _, _, _, _, _, _, hs3⟩)
            clear hsame hC3 hs2 hbx hl2 hf2 hs3
            go_wp2_with fail
            refine hfn.mono ?_
            rintro e w' ⟨rfl, hww⟩
            obtain rfl : W3 = w' := hww.symm
            clear hfn q3
            go_wp2
            go_roundw
            case rel => exact ⟨k + 1, by first | rw [HW.out] | go_num, HB.out.1, HP⟩
            case measure =>
              have h1 := HB.out.1
              try rw [HW.out]
              simp only [intOf]
              omega
          | some p2 =>
            have hbag := bag_yes hs2.vm hf2
            obtain ⟨pb, hpb⟩ : ∃ pb, pb = p2.bag := ⟨_, rfl⟩
            rw [← hpb] at hbag
            have HQ := Lib.hid (⟨hs2, hbx, hl2, hf2, hd2⟩ : _ ∧ _ ∧ _ ∧ _ ∧ _)
            clear hs2 hbx hd2 hl2 hf2 hpb
            go_wp2_with fail
            refine hbag.mono ?_
            rintro e w' ⟨rfl, hww⟩
            obtain rfl : W2 = w' := hww.symm
            clear hbag q2
            go_wp2_with fail
            refine hsame.mono ?_
            rintro e W3 ⟨rfl, hC3⟩
            obtain ⟨hs2, hbx, hl2, hf2, hd2⟩ := HQ.out
            have hs3 := hs2.keep hC3
            have q3 := (read4 (chg_heap0 hC3 hbx)).2.2.1
            obtain ⟨k3, hk3, e3⟩ := List.mem_iff_getElem.1 (doc_yes hf2).1
            have hfn := rfind_idx (k := k3) hs3.rf hl2 (by rw [List.getElem?_eq_getElem hk3, e3]) hd2
            rw [show (toD p2).1 = b from (findV_some hf2).2] at hfn
            have HP := Lib.hid (show SE w g r (.slice A0 n c0) T (k + 1) W3 from ⟨_, _, _, _, _, _, _, hs3⟩)
            clear hsame hC3 hs2 hbx hl2 hf2 hs3 hd2 hk3 e3
            go_wp2_with fail
            refine hfn.mono ?_
            rintro e w' ⟨rfl, hww⟩
            obtain rfl : W3 = w' := hww.symm
            clear hfn q3
            go_wp2
            go_roundw
            case rel => exact ⟨k + 1, by first | rw [HW.out] | go_num, HB.out.1, HP⟩
            case measure =>
              have h1 := HB.out.1
              try rw [HW.out]
              simp only [intOf]
              omega
        by_cases k5 : kd = 5
        · subst k5
          obtain ⟨code, M, hc1, hc2⟩ := pair_fro a b HS.out.1 (by have := HB.out.2; omega) HS.out.2.1 HS.out.2.2.1 HS.out.2.2.2.1
          have HC2 := Lib.hid hc2
          have HC1 := Lib.hid hc1
          clear hc1 hc2
          go_wp2_with fail
          refine J.wp_region_seq (fun W => W.heap[x]? = some (.cells #[.int .i64 5, .int .i64 a, .int .i64 b, .int .u64 st] 79 (0, 0))) [(0, 0), (1, 0), (2, 0), (3, 0), (4, 0), (6, 0), (7, 0), (8, 0), (9, 0), (10, 0), (5, 1), (11, 1), (12, 0), (13, 0)] (by kernel_rfl) (by kernel_rfl) (by kernel_rfl) HS.out.2.2.2.2 ?_
          iterate 10 (apply J.look (by rfl) (by rfl); (focus (intro W hW; have hW4 := read4 hW; obtain ⟨hW1, hW2, hW3, hW4⟩ := hW4; go_simp; exact HasV.val rfl)); simp only [Act.put, List.setIfInBounds_toArray, List.set_cons_zero, List.set_cons_succ])
          refine J.link (fun u W1 => u = .int .i64 code ∧ M W1 ∧ W1.heap[x]? = V.drew.heap[x]?) (by rfl) (by rfl) ?_ (fun u W1 hR => hR.2.2.trans HS.out.2.2.2.2) ?_
          · go_simp
            refine J.HasR.call (HC1.out.mono ?_)
            rintro e W1 ⟨rfl, hM, hbk⟩
            exact ⟨_, rfl, rfl, hM, hbk⟩
          rintro u W1 ⟨rfl, hM, hbk⟩
          simp only [Act.put, List.setIfInBounds_toArray, List.set_cons_zero, List.set_cons_succ]
          have hc2 := HC2.out W1 hM
          have HBK := Lib.hid (hbk.trans HS.out.2.2.2.2)
          clear hM hbk
          refine J.link (fun u W2 => u = .int .i64 code ∧ SE w g r (.slice A0 n c0) T (k + 1) W2 ∧ W2.heap[x]? = W1.heap[x]?) (by rfl) (by rfl) ?_ (fun u W2 hR => hR.2.2.trans HBK.out) ?_
          · go_simp
            refine J.HasR.call (hc2.mono ?_)
            rintro e W2 ⟨rfl, hM, hbk⟩
            exact ⟨_, rfl, rfl, hM, hbk⟩
          rintro u W2 ⟨rfl, hM, hbk⟩
          simp only [Act.put, List.setIfInBounds_toArray, List.set_cons_zero, List.set_cons_succ]
          have HS2 := Lib.hid (⟨hM, hbk.trans HBK.out⟩ : _ ∧ _)
          clear hM hbk hc2 HBK HC1 HC2 q0 q1 q2 q3
          iterate 2 (apply J.look (by rfl) (by rfl); (focus (intro W hW; skip; go_simp; exact HasV.val rfl)); simp only [Act.put, List.setIfInBounds_toArray, List.set_cons_zero, List.set_cons_succ])
          refine J.fin ?_
          obtain ⟨bm2, tv2, rv2, rows2, N2, col2, v2, hs2⟩ := HS2.out.1
          have hbx := HS2.out.2
          have q2 := (read4 hbx).2.2.1
          have hsame := same_v hs2 (by have := HB.out.2; omega)
          have hd2 := doc_nd hs2.vm.ids
          have hl2 := hs2.dlen (by have := HB.out.2; omega)
          cases hf2 : findV rows2 b with
          | none =>
            have hbag := bag_no hs2.vm hf2
            have HQ := Lib.hid (⟨hs2, hbx, hl2, hf2⟩ : _ ∧ _ ∧ _ ∧ _)
            clear hs2 hbx hd2 hl2 hf2
            go_wp2_with fail
            refine hbag.mono ?_
            rintro e w' ⟨rfl, hww⟩
            obtain rfl : W2 = w' := hww.symm
            clear hbag q2
            go_wp2_with fail
            refine hsame.mono ?_
            rintro e W3 ⟨rfl, hC3⟩
            obtain ⟨hs2, hbx, hl2, hf2⟩ := HQ.out
            have hs3 := hs2.keep hC3
            have q3 := (read4 (chg_heap0 hC3 hbx)).2.2.1
            have hfn := rfind_no (id := b) hs3.rf hl2 (doc_no hf2)
            have HP := Lib.hid (show SE w g r (.slice A0 n c0) T (k + 1) W3 from ⟨_, _, _, _, _, _, _, hs3⟩)
            clear hsame hC3 hs2 hbx hl2 hf2 hs3
            go_wp2_with fail
            refine hfn.mono ?_
            rintro e w' ⟨rfl, hww⟩
            obtain rfl : W3 = w' := hww.symm
            clear hfn q3
            go_wp2
            go_roundw
            case rel => exact ⟨k + 1, by first | rw [HW.out] | go_num, HB.out.1, HP⟩
            case measure =>
              have h1 := HB.out.1
              try rw [HW.out]
              simp only [intOf]
              omega
          | some p2 =>
            have hbag := bag_yes hs2.vm hf2
            obtain ⟨pb, hpb⟩ : ∃ pb, pb = p2.bag := ⟨_, rfl⟩
            rw [← hpb] at hbag
            have HQ := Lib.hid (⟨hs2, hbx, hl2, hf2, hd2⟩ : _ ∧ _ ∧ _ ∧ _ ∧ _)
            clear hs2 hbx hd2 hl2 hf2 hpb
            go_wp2_with fail
            refine hbag.mono ?_
            rintro e w' ⟨rfl, hww⟩
            obtain rfl : W2 = w' := hww.symm
            clear hbag q2
            go_wp2_with fail
            refine hsame.mono ?_
            rintro e W3 ⟨rfl, hC3⟩
            obtain ⟨hs2, hbx, hl2, hf2, hd2⟩ := HQ.out
            have hs3 := hs2.keep hC3
            have q3 := (read4 (chg_heap0 hC3 hbx)).2.2.1
            obtain ⟨k3, hk3, e3⟩ := List.mem_iff_getElem.1 (doc_yes hf2).1
            have hfn := rfind_idx (k := k3) hs3.rf hl2 (by rw [List.getElem?_eq_getElem hk3, e3]) hd2
            rw [show (toD p2).1 = b from (findV_some hf2).2] at hfn
            have HP := Lib.hid (show SE w g r (.slice A0 n c0) T (k + 1) W3 from ⟨_, _, _, _, _, _, _, hs3⟩)
            clear hsame hC3 hs2 hbx hl2 hf2 hs3 hd2 hk3 e3
            go_wp2_with fail
            refine hfn.mono ?_
            rintro e w' ⟨rfl, hww⟩
            obtain rfl : W3 = w' := hww.symm
            clear hfn q3
            go_wp2
            go_roundw
            case rel => exact ⟨k + 1, by first | rw [HW.out] | go_num, HB.out.1, HP⟩
            case measure =>
              have h1 := HB.out.1
              try rw [HW.out]
              simp only [intOf]
              omega
        have b1 : (kd == 1) = false := by simpa using k1
        have b2 : (kd == 2) = false := by simpa using k2
        have b3 : (kd == 3) = false := by simpa using k3
        have b4 : (kd == 4) = false := by simpa using k4
        have b5 : (kd == 5) = false := by simpa using k5
        have HS2 := Lib.hid (⟨HSV.out.more, HB4.out⟩ : SE w g r (.slice A0 n c0) T (k + 1) V ∧ _)
        clear q1 q2 q3
        obtain ⟨bm2, tv2, rv2, rows2, N2, col2, v2, hs2⟩ := HS2.out.1
        have hbx := HS2.out.2
        have q2 := (read4 hbx).2.2.1
        have hsame := same_v hs2 (by have := HB.out.2; omega)
        have hd2 := doc_nd hs2.vm.ids
        have hl2 := hs2.dlen (by have := HB.out.2; omega)
        cases hf2 : findV rows2 b with
        | none =>
          have hbag := bag_no hs2.vm hf2
          have HQ := Lib.hid (⟨hs2, hbx, hl2, hf2⟩ : _ ∧ _ ∧ _ ∧ _)
          clear hs2 hbx hd2 hl2 hf2
          go_wp2_with fail
          refine hbag.mono ?_
          rintro e w' ⟨rfl, hww⟩
          obtain rfl : V = w' := hww.symm
          clear hbag q2
          go_wp2_with fail
          refine hsame.mono ?_
          rintro e W3 ⟨rfl, hC3⟩
          obtain ⟨hs2, hbx, hl2, hf2⟩ := HQ.out
          have hs3 := hs2.keep hC3
          have q3 := (read4 (chg_heap0 hC3 hbx)).2.2.1
          have hfn := rfind_no (id := b) hs3.rf hl2 (doc_no hf2)
          have HP := Lib.hid (show SE w g r (.slice A0 n c0) T (k + 1) W3 from ⟨_, _, _, _, _, _, _, hs3⟩)
          clear hsame hC3 hs2 hbx hl2 hf2 hs3
          go_wp2_with fail
          refine hfn.mono ?_
          rintro e w' ⟨rfl, hww⟩
          obtain rfl : W3 = w' := hww.symm
          clear hfn q3
          go_wp2
          go_roundw
          case rel => exact ⟨k + 1, by first | rw [HW.out] | go_num, HB.out.1, HP⟩
          case measure =>
            have h1 := HB.out.1
            try rw [HW.out]
            simp only [intOf]
            omega
        | some p2 =>
          have hbag := bag_yes hs2.vm hf2
          obtain ⟨pb, hpb⟩ : ∃ pb, pb = p2.bag := ⟨_, rfl⟩
          rw [← hpb] at hbag
          have HQ := Lib.hid (⟨hs2, hbx, hl2, hf2, hd2⟩ : _ ∧ _ ∧ _ ∧ _ ∧ _)
          clear hs2 hbx hd2 hl2 hf2 hpb
          go_wp2_with fail
          refine hbag.mono ?_
          rintro e w' ⟨rfl, hww⟩
          obtain rfl : V = w' := hww.symm
          clear hbag q2
          go_wp2_with fail
          refine hsame.mono ?_
          rintro e W3 ⟨rfl, hC3⟩
          obtain ⟨hs2, hbx, hl2, hf2, hd2⟩ := HQ.out
          have hs3 := hs2.keep hC3
          have q3 := (read4 (chg_heap0 hC3 hbx)).2.2.1
          obtain ⟨k3, hk3, e3⟩ := List.mem_iff_getElem.1 (doc_yes hf2).1
          have hfn := rfind_idx (k := k3) hs3.rf hl2 (by rw [List.getElem?_eq_getElem hk3, e3]) hd2
          rw [show (toD p2).1 = b from (findV_some hf2).2] at hfn
          have HP := Lib.hid (show SE w g r (.slice A0 n c0) T (k + 1) W3 from ⟨_, _, _, _, _, _, _, hs3⟩)
          clear hsame hC3 hs2 hbx hl2 hf2 hs3 hd2 hk3 e3
          go_wp2_with fail
          refine hfn.mono ?_
          rintro e w' ⟨rfl, hww⟩
          obtain rfl : W3 = w' := hww.symm
          clear hfn q3
          go_wp2
          go_roundw
          case rel => exact ⟨k + 1, by first | rw [HW.out] | go_num, HB.out.1, HP⟩
          case measure =>
            have h1 := HB.out.1
            try rw [HW.out]
            simp only [intOf]
            omega
      · obtain rfl : k = m := by omega
        obtain ⟨hn, hm, hr0, hr1⟩ := HH.out
        have hl200 := hs.n2
        have htk := take_list z hs.vm (wide_rows (by omega)) (by rw [all_len hs.vm.ids]; omega)
        obtain ⟨dl, hdl⟩ : ∃ dl, dl = rows.flatten.length := ⟨_, rfl⟩
        obtain ⟨L, hL⟩ : ∃ L, L = ((allOf rows).map (·.1)).take z.toNat := ⟨_, rfl⟩
        have hLe : L = ((ord rows).map (·.id)).take z.toNat := by rw [hL, all_ord hs.vm.ids, List.map_map]; rfl
        obtain ⟨ln, hln⟩ : ∃ ln, ln = min z.toNat dl := ⟨_, rfl⟩
        have hLl : L.length = ln := by rw [hLe, List.length_take, List.length_map, ord_len, hln, hdl]
        rw [← hL] at htk
        have HF := Lib.hid (⟨hs, hdl, hLe, hln, hLl, hl200⟩ : _ ∧ _ ∧ _ ∧ _ ∧ _ ∧ _)
        clear hn hm hr0 hr1 hL hl200
        have hmn : (if (dl : Int) < (if z < 0 then 0 else z) then (dl : Int) else if z < 0 then 0 else z) = (ln : Int) := by
          split <;> split at * <;> omega
        have HMX := Lib.hid hmn
        clear hdl hLe hln hLl hmn hs
        go_wp2_with fail
        refine htk.mono ?_
        rintro e w5 ⟨lv, rfl, ho, hnw, hC5⟩
        obtain ⟨hs, hdl, hLe, hln, hLl, hl200⟩ := HF.out
        have hmn := HMX.out
        obtain ⟨A5, c5, hlv, _, _, _, _⟩ := ho.form
        rw [hLl] at hlv
        have hs5 := hs.keep hC5
        obtain ⟨A6, c6, hv6, _, _, _, _⟩ := hs5.rf.own.form
        rw [doc_len, ← hdl] at hv6
        have x1 := (read2 hs5.rf.cell).2
        rw [hv6] at x1
        have HF5 := Lib.hid (⟨hs5, ho, hlv, hv6, hdl, hLe, hln, hLl, by omega⟩ : _ ∧ _ ∧ _ ∧ _ ∧ _ ∧ _ ∧ _ ∧ _ ∧ dl ≤ 200)
        subst hlv
        clear htk hs hdl hLe hln hLl hl200 ho hnw hC5 hs5 hv6 HF
        clear hmn
        by_cases hz : z < 0
        · obtain rfl : ln = 0 := by have := HF5.out.2.2.2.2.2.2.1; omega
          have hd0 : ¬ (dl : Int) < 0 := by omega
          go_wp2
          go_loopw [166] (fun i wr => ∃ i' : Nat, i = .int .i64 i' ∧ i' ≤ 0 ∧ Hid (Chg (fun _ => False) w5 wr)) (fun i _ => 0 - (intOf i).toNat)
          case atStart => exact ⟨0, rfl, Nat.zero_le _, Lib.hid (Chg.refl _ _)⟩
          case round =>
            obtain ⟨i, rfl, hi, HJ⟩ := hrel
            by_cases hil : i < 0
            · exact absurd hil (Nat.not_lt_zero _)
            · obtain rfl : i = 0 := by omega
              have HQ := Lib.hid ((HF5.out.1.bl.trans HJ.out (fun _ _ f => f)).below (fun a ha => ⟨ha, fun f => f⟩) : Below w.heap.size w wr)
              clear x1
              go_wp2
              go_ret
              exact ⟨rfl, HQ.out⟩
        · by_cases hzd : (dl : Int) < z
          · obtain rfl : ln = dl := by have := HF5.out.2.2.2.2.2.2.1; omega
            go_wp2
            go_loopw [166] (fun i wr => ∃ i' : Nat, i = .int .i64 i' ∧ i' ≤ ln ∧ Hid (Chg (fun _ => False) w5 wr)) (fun i _ => ln - (intOf i).toNat)
            case atStart => exact ⟨0, rfl, Nat.zero_le _, Lib.hid (Chg.refl _ _)⟩
            case round =>
              obtain ⟨i, rfl, hi, HJ⟩ := hrel
              by_cases hil : i < ln
              · obtain ⟨hs5, ho, -, hv6, hdl, hLe, hln, hLl, hd200⟩ := HF5.out
                have hid : i < ln := by omega
                have hiz : i < z.toNat := by omega
                have hol : (ord rows).length = ln := by rw [ord_len, hdl]
                obtain ⟨p, hp⟩ : ∃ p, (ord rows)[i]? = some p := ⟨_, List.getElem?_eq_getElem (by omega)⟩
                obtain ⟨g1, cr1, cur1, e1, _, b1, _, _, cc1⟩ := ho.at_ layI 0 (by omega)
                obtain ⟨g3, cr3, cur3, e3, _, b3, _, _, cc3⟩ := hs5.rf.own.at_ layD d0 (by rw [doc_len]; omega)
                rw [hv6] at e3
                simp only [Value.slice.injEq] at e1 e3
                obtain ⟨rfl, -, rfl⟩ := e1
                obtain ⟨rfl, -, rfl⟩ := e3
                have gl : L.getD i 0 = p.id := by rw [hLe, List.getD_eq_getElem?_getD, List.getElem?_take, if_pos hiz, List.getElem?_map, hp]; rfl
                have gd : (docOf rows).getD i d0 = toD p := by unfold docOf; rw [List.getD_eq_getElem?_getD, List.getElem?_map, hp]; rfl
                obtain ⟨id, hidp⟩ : ∃ id, id = p.id := ⟨_, rfl⟩
                have k1 := cc1 i 0 (by omega) (by omega)
                have k3 := cc3 i 0 (by rw [doc_len]; omega) (by omega)
                rw [gl, ← hidp] at k1
                rw [gd] at k3
                unfold toD at k3
                rw [← hidp] at k3
                have m1 : wr.cell? ⟨g1, i, none⟩ = some (.int .i64 id) := by
                  rw [Nat.mul_one, Nat.add_zero] at k1
                  exact cell_of (chg_heap0 HJ.out b1) _ k1
                have m3 : wr.cell? ⟨g3, i * 3, none⟩ = some (.int .i64 id) := cell_of (chg_heap0 HJ.out b3) _ k3
                have x2 := chg_cell HJ.out x1 (fun f => f)
                have HW2 := Lib.hid (show wrap64 ((i : Int) + 1) = ((i + 1 : Nat) : Int) by unfold wrap64; omega)
                have HJ2 := Lib.hid (HJ.out.drew)
                clear hs5 ho hv6 hdl hLe hln hLl hd200 hol hp b1 b3 cc1 cc3 gl gd hidp k1 k3 hiz
                go_wp2_with fail
                refine J.wp_region_seq (fun W => W.cell? ⟨r, 1, none⟩ = some (.slice (some ⟨g3, 0, none⟩) ln c6) ∧ W.cell? ⟨g1, i, none⟩ = some (.int .i64 id) ∧ W.cell? ⟨g3, i * 3, none⟩ = some (.int .i64 id)) [(0, 0), (1, 0), (2, 0), (3, 0), (4, 0), (5, 0), (6, 0), (7, 0), (8, 0), (9, 0), (10, 0), (11, 0), (12, 0)] (by kernel_rfl) (by kernel_rfl) (by kernel_rfl) ⟨x2, m1, m3⟩ ?_
                iterate 13 (apply J.look (by rfl) (by rfl); (focus (intro W hW; obtain ⟨hW1, hW2, hW3⟩ := hW; go_simp; exact HasV.val rfl)); simp only [Act.put, List.setIfInBounds_toArray, List.set_cons_zero, List.set_cons_succ])
                refine J.fin ?_
                clear x2 m1 m3
                go_wp2
                go_roundw
                case rel => exact ⟨i + 1, by first | rw [HW2.out] | go_num, hil, HJ2⟩
                case measure =>
                  try rw [HW2.out]
                  simp only [intOf]
                  omega
              · obtain rfl : i = ln := by omega
                have HQ := Lib.hid ((HF5.out.1.bl.trans HJ.out (fun _ _ f => f)).below (fun a ha => ⟨ha, fun f => f⟩) : Below w.heap.size w wr)
                clear x1
                go_wp2
                go_ret
                exact ⟨rfl, HQ.out⟩
          · obtain rfl : z = (ln : Int) := by have := HF5.out.2.2.2.2.2.2.1; omega
            have hz0 : ¬ (ln : Int) < 0 := by omega
            go_wp2
            go_loopw [166] (fun i wr => ∃ i' : Nat, i = .int .i64 i' ∧ i' ≤ ln ∧ Hid (Chg (fun _ => False) w5 wr)) (fun i _ => ln - (intOf i).toNat)
            case atStart => exact ⟨0, rfl, Nat.zero_le _, Lib.hid (Chg.refl _ _)⟩
            case round =>
              obtain ⟨i, rfl, hi, HJ⟩ := hrel
              by_cases hil : i < ln
              · obtain ⟨hs5, ho, -, hv6, hdl, hLe, hln, hLl, hd200⟩ := HF5.out
                have hid : i < dl := by omega
                have hiz : i < (ln : Int).toNat := by omega
                have hol : (ord rows).length = dl := by rw [ord_len, hdl]
                obtain ⟨p, hp⟩ : ∃ p, (ord rows)[i]? = some p := ⟨_, List.getElem?_eq_getElem (by omega)⟩
                obtain ⟨g1, cr1, cur1, e1, _, b1, _, _, cc1⟩ := ho.at_ layI 0 (by omega)
                obtain ⟨g3, cr3, cur3, e3, _, b3, _, _, cc3⟩ := hs5.rf.own.at_ layD d0 (by rw [doc_len]; omega)
                rw [hv6] at e3
                simp only [Value.slice.injEq] at e1 e3
                obtain ⟨rfl, -, rfl⟩ := e1
                obtain ⟨rfl, -, rfl⟩ := e3
                have gl : L.getD i 0 = p.id := by rw [hLe, List.getD_eq_getElem?_getD, List.getElem?_take, if_pos hiz, List.getElem?_map, hp]; rfl
                have gd : (docOf rows).getD i d0 = toD p := by unfold docOf; rw [List.getD_eq_getElem?_getD, List.getElem?_map, hp]; rfl
                obtain ⟨id, hidp⟩ : ∃ id, id = p.id := ⟨_, rfl⟩
                have k1 := cc1 i 0 (by omega) (by omega)
                have k3 := cc3 i 0 (by rw [doc_len]; omega) (by omega)
                rw [gl, ← hidp] at k1
                rw [gd] at k3
                unfold toD at k3
                rw [← hidp] at k3
                have m1 : wr.cell? ⟨g1, i, none⟩ = some (.int .i64 id) := by
                  rw [Nat.mul_one, Nat.add_zero] at k1
                  exact cell_of (chg_heap0 HJ.out b1) _ k1
                have m3 : wr.cell? ⟨g3, i * 3, none⟩ = some (.int .i64 id) := cell_of (chg_heap0 HJ.out b3) _ k3
                have x2 := chg_cell HJ.out x1 (fun f => f)
                have HW2 := Lib.hid (show wrap64 ((i : Int) + 1) = ((i + 1 : Nat) : Int) by unfold wrap64; omega)
                have HJ2 := Lib.hid (HJ.out.drew)
                clear hs5 ho hv6 hdl hLe hln hLl hd200 hol hp b1 b3 cc1 cc3 gl gd hidp k1 k3 hiz
                go_wp2_with fail
                refine J.wp_region_seq (fun W => W.cell? ⟨r, 1, none⟩ = some (.slice (some ⟨g3, 0, none⟩) dl c6) ∧ W.cell? ⟨g1, i, none⟩ = some (.int .i64 id) ∧ W.cell? ⟨g3, i * 3, none⟩ = some (.int .i64 id)) [(0, 0), (1, 0), (2, 0), (3, 0), (4, 0), (5, 0), (6, 0), (7, 0), (8, 0), (9, 0), (10, 0), (11, 0), (12, 0)] (by kernel_rfl) (by kernel_rfl) (by kernel_rfl) ⟨x2, m1, m3⟩ ?_
                iterate 13 (apply J.look (by rfl) (by rfl); (focus (intro W hW; obtain ⟨hW1, hW2, hW3⟩ := hW; go_simp; exact HasV.val rfl)); simp only [Act.put, List.setIfInBounds_toArray, List.set_cons_zero, List.set_cons_succ])
                refine J.fin ?_
                clear x2 m1 m3
                go_wp2
                go_roundw
                case rel => exact ⟨i + 1, by first | rw [HW2.out] | go_num, hil, HJ2⟩
                case measure =>
                  try rw [HW2.out]
                  simp only [intOf]
                  omega
              · obtain rfl : i = ln := by omega
                have HQ := Lib.hid ((HF5.out.1.bl.trans HJ.out (fun _ _ f => f)).below (fun a ha => ⟨ha, fun f => f⟩) : Below w.heap.size w wr)
                clear x1
                go_wp2
                go_ret
                exact ⟨rfl, HQ.out⟩
  · have hnew := new_no (w := w1) (A := A0) c0 (by have := HH.out.1; omega) (HH.out.2.2.1.chg HC.out (fun _ _ f => f)) hR
    have hris := rising_any (w := w1) (A := A0) (T := T) c0 (by have := HH.out.1; omega) (HH.out.2.2.1.chg HC.out (fun _ _ f => f))
    rw [← HH.out.1] at hnew hris
    have HRR := Lib.hid hR
    clear hR
    go_wp2_with fail
    refine hnew.mono ?_
    rintro e w2 ⟨rfl, hw2⟩
    obtain rfl : w1 = w2 := hw2.symm
    clear hnew
    go_wp2_with fail
    refine hris.mono ?_
    rintro e w2 ⟨b, rfl, hC2, hb⟩
    have hbf : b = false := by
      cases b with
      | false => rfl
      | true => exact absurd (hb.1 rfl) HRR.out
    subst hbf
    have HC2 := Lib.hid (HC.out.trans hC2 (fun _ _ f => f))
    clear hb hris hC2
    go_wp2
    go_ret
    exact ⟨rfl, HC2.out.below (fun k hk => ⟨hk, id⟩)⟩
end Go.Proofs.Ythoagpagnldmeaa.V
namespace Go.Proofs.Ythoagpagnldmeaa
open Go.RowKit Go.Ps
theorem votersPlay_walk (A0 : Option Addr) (c0 : Nat) (T : List Int) (A1 : Option Addr) (c1 : Nat) (l : List (Int × Int × Int × Int)) (z : Int) (w : World) (hr0 : ReadsI w .u64 A0 T) (u0 : ∀ x ∈ T, (Lit.int .u64 x).wf = true) (y0 : T.length * 8 ≤ 140737488351232)
    (hr1 : Reads4 w .i64 .i64 .i64 .u64 A1 l ∧ ∀ z ∈ l, (Lit.int .i64 z.1).wf = true ∧ (Lit.int .i64 z.2.1).wf = true ∧ (Lit.int .i64 z.2.2.1).wf = true ∧ (Lit.int .u64 z.2.2.2).wf = true) (h2 : (Lit.int .i64 z).wf = true) :
    Calls Try.prog 8 #[.slice A0 T.length c0, .slice A1 l.length c1, .int .i64 z] w fun e w' => e = .returned (.bool true) ∧ Below w.heap.size w w' := V.votersPlay_walk A0 c0 T A1 c1 l z w hr0 u0 y0 hr1 h2
end Go.Proofs.Ythoagpagnldmeaa
