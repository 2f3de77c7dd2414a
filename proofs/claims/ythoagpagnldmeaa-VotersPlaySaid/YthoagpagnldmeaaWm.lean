/- The law VotersSettle: its walk. -/
import Derived.Test.YthoagpagnldmeaaWl
set_option linter.unusedVariables false
set_option linter.unusedSimpArgs false
namespace Go.Proofs.Ythoagpagnldmeaa.V
open Go.RowKit Go.Ps
section
open Go.Joins Go.WideShapes
theorem open_script {H : Type} {enc : TypeId × Value → H} {W : World} {base : Nat} {spare : Nat → Bool} {held : Bool} {a : Option Addr} {len cap : Nat} {d : DataW H} {ps : List MemPlace} (h : DataW.Trod enc Try.prog W base spare held 73 (.slice a len cap) d ps) :
    ∃ zs : List (Int × Int × Int × Int), len = zs.length ∧ (Reads4 W .i64 .i64 .i64 .u64 a zs ∧ ∀ z ∈ zs, (Lit.int .i64 z.1).wf = true ∧ (Lit.int .i64 z.2.1).wf = true ∧ (Lit.int .i64 z.2.2.1).wf = true ∧ (Lit.int .u64 z.2.2.2).wf = true) :=
  open_reads4 Try.underlying73 Try.underlying79 (by kernel_rfl) rfl rfl rfl rfl (by kernel_rfl) (by kernel_rfl) (by kernel_rfl) (by kernel_rfl) Try.underlying3 Try.underlying3 Try.underlying3 Try.underlying68 h
end
theorem take_ids {w : World} {g bm : Nat} {tv rv : Value} {T : List Int} {rows : List (List Vo)} {N : Int} {col : Nat → Nat} (h : VM w g bm tv rv T rows N col) : ((allOf rows).map (·.1)).take ((rows.flatten.length : Int)).toNat = (ord rows).map (·.id) := by
  rw [Int.toNat_natCast, List.take_of_length_le (by rw [List.length_map, all_len h.ids]; exact Nat.le_refl _), all_ord h.ids, List.map_map]
  rfl
set_option maxRecDepth 100000 in
set_option maxHeartbeats 8000000 in
theorem votersSettle_walk (A0 : Option Addr) (c0 : Nat) (T : List Int) (A1 : Option Addr) (c1 : Nat) (l : List (Int × Int × Int × Int)) (w : World) (hr0 : ReadsI w .u64 A0 T) (u0 : ∀ x ∈ T, (Lit.int .u64 x).wf = true) (y0 : T.length * 8 ≤ 140737488351232)
    (hr1 : Reads4 w .i64 .i64 .i64 .u64 A1 l ∧ ∀ z ∈ l, (Lit.int .i64 z.1).wf = true ∧ (Lit.int .i64 z.2.1).wf = true ∧ (Lit.int .i64 z.2.2.1).wf = true ∧ (Lit.int .u64 z.2.2.2).wf = true) :
    Calls Try.prog 9 #[.slice A0 T.length c0, .slice A1 l.length c1] w fun e w' => e = .returned (.bool true) ∧ Below w.heap.size w w' := by
  obtain ⟨n, hn⟩ : ∃ n, n = T.length := ⟨_, rfl⟩
  obtain ⟨m, hm⟩ : ∃ m, m = l.length := ⟨_, rfl⟩
  have HH := Lib.hid (⟨hn, hm, hr0, hr1.1⟩ : _ ∧ _ ∧ _ ∧ _)
  rw [← hn, ← hm]
  clear hn hm hr0 hr1 u0 y0
  go_enter Try.func9, Try.ntmps9
  go_wp2_with fail
  refine (awake_any _).mono ?_
  rintro e w1 ⟨rfl, hC⟩
  have HC := Lib.hid hC
  clear hC
  by_cases hnb : 100 < n
  · have hnb2 : (100 : Int) < n := by omega
    go_wp2_with fail
    refine (awake_any _).mono ?_
    rintro e w2 ⟨rfl, hC⟩
    have HC2 := Lib.hid (HC.out.trans hC (fun _ _ f => f))
    clear hC
    go_wp2
    go_ret
    exact ⟨rfl, HC2.out.below (fun k hk => ⟨hk, id⟩)⟩
  by_cases hmb : 200 < m
  · have hnb2 : ¬ (100 : Int) < n := by omega
    have hmb2 : (200 : Int) < m := by omega
    go_wp2_with fail
    refine (awake_any _).mono ?_
    rintro e w2 ⟨rfl, hC⟩
    have HC2 := Lib.hid (HC.out.trans hC (fun _ _ f => f))
    clear hC
    go_wp2
    go_ret
    exact ⟨rfl, HC2.out.below (fun k hk => ⟨hk, id⟩)⟩
  have hnb2 : ¬ (100 : Int) < n := by omega
  have hmb2 : ¬ (200 : Int) < m := by omega
  by_cases hR : Ris T ∧ T.length ≤ 100
  · have hnew := new_yes (w := w1) (A := A0) c0 (HH.out.2.2.1.chg HC.out (fun _ _ f => f)) hR.1 hR.2
    rw [← HH.out.1] at hnew
    have HRR := Lib.hid hR
    clear hR
    go_wp2_with fail
    refine hnew.mono ?_
    rintro e w2 ⟨g, bm, tv, rv, col, rfl, hv, hC, hcol⟩
    obtain ⟨E, hE⟩ : ∃ E : Nat → Prop, E = fun j => j < w.heap.size := ⟨_, rfl⟩
    have hI : GV E w g T Tru 0 w2 := ⟨bm, tv, rv, _, 0, col, hv, by omega, by simp, trivial, (HC.out.trans hC (fun _ _ f => f)).mono (fun _ _ f => f.elim), fun j hj => by rw [hE] at hj; exact ⟨hj, hcol j (Nat.lt_of_lt_of_le hj HC.out.size)⟩⟩
    have HI := Lib.hid hI
    have HE := Lib.hid hE
    clear hI hv hC hcol hnew hE
    go_wp2
    go_loopw [45] (fun i wr => ∃ k : Nat, i = .int .i64 k ∧ k ≤ m ∧ Hid (GV E w g T Tru k wr)) (fun i _ => m - (intOf i).toNat)
    case atStart => exact ⟨0, rfl, Nat.zero_le _, HI⟩
    case round =>
      obtain ⟨k, rfl, hk, HK⟩ := hrel
      by_cases hkm : k < m
      · obtain ⟨hn, hm, hr0, hr1⟩ := HH.out
        obtain ⟨bb, off, rfl, hblt, hcell⟩ := hr1 (by rintro rfl; simp at hm; omega)
        obtain ⟨p0, p1, p2, p3⟩ := hcell k (by omega)
        obtain ⟨z, hz⟩ : ∃ z, z = l.getD k d4 := ⟨_, rfl⟩
        rw [← hz] at p0 p1 p2 p3
        have hbl : Below w.heap.size w wr := by
          obtain ⟨_, _, _, _, _, _, _, _, _, _, h5, _⟩ := HK.out
          exact h5.below (fun j hj => ⟨hj, fun f => f (by rw [HE.out]; exact hj)⟩)
        have s0 := (hbl.cell (p := ⟨bb, off + k * 4, none⟩) hblt).trans p0
        have s1 := (hbl.cell (p := ⟨bb, off + k * 4 + 1, none⟩) hblt).trans p1
        have s2 := (hbl.cell (p := ⟨bb, off + k * 4 + 2, none⟩) hblt).trans p2
        have s3 := (hbl.cell (p := ⟨bb, off + k * 4 + 3, none⟩) hblt).trans p3
        have HB := Lib.hid (⟨hkm, by omega⟩ : k < m ∧ k < 1000)
        obtain ⟨r, hr⟩ : ∃ r, r = wr.heap.size := ⟨_, rfl⟩
        obtain ⟨kd, hkd⟩ : ∃ kd, kd = z.1 := ⟨_, rfl⟩
        obtain ⟨V, hV⟩ : ∃ V, V = wr.alloc (.cells #[.int .i64 z.1, .int .i64 z.2.1, .int .i64 z.2.2.1, .int .u64 z.2.2.2] 79) := ⟨_, rfl⟩
        have hVC : Chg (fun _ => False) wr V := by rw [hV]; exact (Chg.refl _ wr).alloc _
        have hb : V.heap[r]? = some (.cells #[.int .i64 z.1, .int .i64 z.2.1, .int .i64 z.2.2.1, .int .u64 z.2.2.2] 79 (0, 0)) := by rw [hV, hr]; exact heap_alloc_at _ _
        obtain ⟨q0, q1, q2, q3⟩ := read4 hb
        have HG := Lib.hid (HK.out.keep hVC (Nat.le_refl _))
        have HV := Lib.hid (⟨hV, hr⟩ : _ ∧ _)
        clear hn hm hr0 hr1 hcell p0 p1 p2 p3 hz hk hblt hr hVC hb hV hbl
        go_upto_region 10 with (fail)
        rw [← HV.out.1, ← HV.out.2]
        clear s0 s1 s2 s3
        have q0' : V.cell? ⟨r, 0, none⟩ = some (.int .i64 kd) := by rw [hkd]; exact q0
        clear q0 hkd
        have q0 := q0'
        clear q0'
        by_cases k1 : kd = 1
        · subst k1
          have hc := ins_gv z.2.1 z.2.2.2 HG.out (by have := HB.out; omega)
          clear HG
          go_wp2_with fail
          refine hc.mono ?_
          rintro e w4 ⟨r, rfl, hg⟩
          have HP := Lib.hid hg
          clear hg hc q0 q1 q2 q3
          go_wp2
          go_roundw
          case rel => exact ⟨k + 1, by go_num, HB.out.1, HP⟩
          case measure =>
            have h1 := HB.out.1
            simp only [intOf]
            omega
        by_cases k2 : kd = 2
        · subst k2
          have hc := rem_gv z.2.1 HG.out
          clear HG
          go_wp2_with fail
          refine hc.mono ?_
          rintro e w4 ⟨r, rfl, hg⟩
          have HP := Lib.hid hg
          clear hg hc q0 q1 q2 q3
          go_wp2
          go_roundw
          case rel => exact ⟨k + 1, by go_num, HB.out.1, HP⟩
          case measure =>
            have h1 := HB.out.1
            simp only [intOf]
            omega
        by_cases k3 : kd = 3
        · subst k3
          have hc := upd_gv z.2.1 z.2.2.2 HG.out
          clear HG
          go_wp2_with fail
          refine hc.mono ?_
          rintro e w4 ⟨r, rfl, hg⟩
          have HP := Lib.hid hg
          clear hg hc q0 q1 q2 q3
          go_wp2
          go_roundw
          case rel => exact ⟨k + 1, by go_num, HB.out.1, HP⟩
          case measure =>
            have h1 := HB.out.1
            simp only [intOf]
            omega
        by_cases k5 : kd = 5
        · subst k5
          have hc := fro_gv z.2.1 z.2.2.1 HG.out
          clear HG
          go_wp2_with fail
          refine hc.mono ?_
          rintro e w4 ⟨r, rfl, hg⟩
          have HP := Lib.hid hg
          clear hg hc q0 q1 q2 q3
          go_wp2
          go_roundw
          case rel => exact ⟨k + 1, by go_num, HB.out.1, HP⟩
          case measure =>
            have h1 := HB.out.1
            simp only [intOf]
            omega
        have b1 : (kd == 1) = false := by simpa using k1
        have b2 : (kd == 2) = false := by simpa using k2
        have b3 : (kd == 3) = false := by simpa using k3
        have b5 : (kd == 5) = false := by simpa using k5
        have HP := Lib.hid (HG.out.keep (Chg.refl _ _) (Nat.le_succ k))
        clear HG q1 q2 q3
        go_wp2
        go_roundw
        case rel => exact ⟨k + 1, by go_num, HB.out.1, HP⟩
        case measure =>
          have h1 := HB.out.1
          simp only [intOf]
          omega
      · obtain rfl : k = m := by omega
        obtain ⟨bm, tv, rv, rows, N, col, hv, hN, hlen, -, hCw, hcol⟩ := HK.out
        obtain ⟨hn, hm, hr0, hr1⟩ := HH.out
        have hk200 : k ≤ 200 := by omega
        have hln := len_v hv
        have hids := take_ids hv
        have htk := take_list (rows.flatten.length : Int) hv (wide_rows (by omega)) (by rw [all_len hv.ids]; omega)
        rw [hids] at htk
        obtain ⟨len, hlen2⟩ : ∃ len, len = rows.flatten.length := ⟨_, rfl⟩
        obtain ⟨L, hL⟩ : ∃ L, L = (ord rows).map (·.id) := ⟨_, rfl⟩
        have hLl : L.length = len := by rw [hL, List.length_map, ord_len, hlen2]
        have hLp : (rows.flatten.map (·.id)).Perm L := by rw [hL]; exact ((ord_perm rows).map _).symm
        rw [← hlen2] at hln htk
        rw [← hL] at htk
        have HF := Lib.hid (⟨hv, hN, hlen, hCw, hcol, hlen2, hLl, hLp⟩ : _ ∧ _ ∧ _ ∧ _ ∧ _ ∧ _ ∧ _ ∧ _)
        clear hv hN hlen hCw hcol hn hm hr0 hr1 hids hlen2 hL hLl hLp
        go_wp2_with fail
        refine hln.mono ?_
        rintro e w' ⟨rfl, hww⟩
        obtain rfl : wr = w' := hww.symm
        clear hln
        go_wp2_with fail
        refine htk.mono ?_
        rintro e w3 ⟨v, rfl, ho, hnew, hC⟩
        obtain ⟨hv, hN, hlen, hCw, hcol, hlen2, hLl, hLp⟩ := HF.out
        obtain ⟨A, c, hvv, _, _, hAo, _⟩ := ho.form
        rw [hLl] at hvv
        obtain ⟨E2, hE2⟩ : ∃ E2 : Nat → Prop, E2 = fun j => j < w.heap.size ∨ v.ownBlock = some j := ⟨_, rfl⟩
        have hG2 : GV E2 w3 g T (Set' T L 0) (k + 0) w3 := ⟨bm, tv, rv, rows, N, col, hv.keep hC (fun _ _ f => f.elim), by omega, by omega, ⟨hLp, fun q _ hq => by simp at hq⟩, Chg.refl _ _, fun j hj => by
          rw [hE2] at hj
          rcases hj with hj | hj
          · have h1 := hcol j (by rw [HE.out]; exact hj)
            exact ⟨Nat.lt_of_lt_of_le (Nat.lt_of_lt_of_le hj hCw.size) hC.size, h1.2⟩
          · refine ⟨ho.lt hj, ?_⟩
            have := hnew j hj
            by_cases hc : col j = 0
            · exact hc
            · have := hv.top hc; omega⟩
        have hbl3 : Below w.heap.size w w3 := Below.trans (hCw.below (fun j hj => ⟨hj, fun f => f (by rw [HE.out]; exact hj)⟩)) (hC.below (fun j hj => ⟨Nat.lt_of_lt_of_le hj hCw.size, id⟩))
        have HG2 := Lib.hid hG2
        have HF2 := Lib.hid (⟨ho, hvv, hLl, hE2, hbl3, by omega⟩ : _ ∧ _ ∧ _ ∧ _ ∧ _ ∧ len ≤ 200)
        subst hvv
        clear htk hv hN hlen hCw hcol hlen2 hLl hLp hE2 hG2 hbl3 ho hnew hC hAo HF
        go_wp2
        go_loopw [91] (fun i wr => ∃ j : Nat, i = .int .i64 j ∧ j ≤ len ∧ Hid (GV E2 w3 g T (Set' T L j) (k + j) wr)) (fun i _ => len - (intOf i).toNat)
        case atStart => exact ⟨0, rfl, Nat.zero_le _, HG2⟩
        case round =>
          obtain ⟨j, rfl, hj, HJ⟩ := hrel
          by_cases hjl : j < len
          · obtain ⟨ho, -, hLl, hE2, hbl3, hl200⟩ := HF2.out
            obtain ⟨gs, cr, cur, hvv, hvo, hcbk, _, _, hcc⟩ := ho.at_ layI 0 (by omega)
            simp only [Value.slice.injEq] at hvv
            obtain ⟨rfl, -, rfl⟩ := hvv
            have hC2 : Chg (fun j => ¬ E2 j) w3 wr := by obtain ⟨_, _, _, _, _, _, _, _, _, _, h5, _⟩ := HJ.out; exact h5
            have hblk := (hC2.block gs (heap_lt hcbk) (fun f => f (by rw [hE2]; exact .inr hvo))).trans hcbk
            obtain ⟨id, hid⟩ : ∃ id, id = L.getD j 0 := ⟨_, rfl⟩
            have hide : L[j]? = some id := by rw [hid, List.getD_eq_getElem?_getD, List.getElem?_eq_getElem (by omega)]; rfl
            have hcell := hcc j 0 (by omega) (by omega)
            have r_s : wr.cell? ⟨gs, j, none⟩ = some (.int .i64 id) := by
              rw [Nat.mul_one, Nat.add_zero, List.getD_eq_getElem?_getD, hide] at hcell
              exact cell_of hblk j hcell
            have hre := reb_gv hide HJ.out (by omega)
            clear ho hLl hE2 hbl3 hvo hcbk hcc hC2 hblk hid hide hcell
            go_wp2_with fail
            refine hre.mono ?_
            rintro e w4 ⟨r, rfl, hg⟩
            have HP := Lib.hid hg
            clear hg hre r_s
            go_wp2
            go_roundw
            case rel => exact ⟨j + 1, by go_num, hjl, HP⟩
            case measure =>
              simp only [intOf]
              omega
          · obtain rfl : j = len := by omega
            obtain ⟨bm, tv, rv, rows, N, col, hv, hN, hlen, ⟨hLp, hset⟩, hCw, hcol⟩ := HJ.out
            obtain ⟨-, -, hLl, hE2, hbl3, hl200⟩ := HF2.out
            have hflen : rows.flatten.length = j := by have := hLp.length_eq; rw [List.length_map] at this; omega
            have hbag : ∀ q ∈ rows.flatten, q.bag = bagOf T q.stake := fun q hq => hset q hq (by
              rw [← hLl, List.take_length]
              exact hLp.mem_iff.1 (List.mem_map.2 ⟨q, hq, rfl⟩))
            have hln := len_v hv
            have hids := take_ids hv
            have htk := take_list (rows.flatten.length : Int) hv (wide_rows (by omega)) (by rw [all_len hv.ids]; omega)
            rw [hids] at htk
            rw [hflen] at hln htk
            have hbl5 : Below w.heap.size w wr := hbl3.trans (hCw.below (fun i hi => ⟨Nat.lt_of_lt_of_le hi hbl3.size, fun f => f (by rw [hE2]; exact .inl hi)⟩))
            have HF3 := Lib.hid (⟨hv, hflen, hbag, hbl5, hl200⟩ : _ ∧ _ ∧ _ ∧ _ ∧ _)
            clear hv hN hlen hLp hset hCw hcol hLl hE2 hbl3 hl200 hflen hbag hids hbl5 HF2 HG2
            go_wp2_with fail
            refine hln.mono ?_
            rintro e w' ⟨rfl, hww⟩
            obtain rfl : wr = w' := hww.symm
            clear hln
            go_wp2_with fail
            refine htk.mono ?_
            rintro e w5 ⟨v2, rfl, ho, hnew, hC⟩
            obtain ⟨hv, hflen, hbag, hbl5, hl200⟩ := HF3.out
            obtain ⟨A2, c2, hvv, _, _, hAo, _⟩ := ho.form
            rw [List.length_map, ord_len, hflen] at hvv
            have HF4 := Lib.hid (⟨hv.keep hC (fun _ _ f => f.elim), hflen, hbag, hbl5.trans (hC.below (fun i hi => ⟨Nat.lt_of_lt_of_le hi hbl5.size, fun f => f⟩)), hl200, ho, hvv⟩ : _ ∧ _ ∧ _ ∧ _ ∧ _ ∧ _ ∧ _)
            subst hvv
            clear htk hv hflen hbag hbl5 ho hnew hC hAo HF3 hl200
            go_wp2
            go_loopw [107] (fun i wr => ∃ i' : Nat, i = .int .i64 i' ∧ i' ≤ j ∧ Hid (Chg (fun _ => False) w5 wr)) (fun i _ => j - (intOf i).toNat)
            case atStart => exact ⟨0, rfl, Nat.zero_le _, Lib.hid (Chg.refl _ _)⟩
            case round =>
              obtain ⟨i, rfl, hi, HI5⟩ := hrel
              by_cases hij : i < j
              · obtain ⟨hv0, hflen, hbag, hbl5, hl200, ho, -⟩ := HF4.out
                have hol : (ord rows).length = j := by rw [ord_len, hflen]
                obtain ⟨gs, cr, cur, hvv, hvo, hcbk, _, _, hcc⟩ := ho.at_ layI 0 (by rw [List.length_map]; omega)
                simp only [Value.slice.injEq] at hvv
                obtain ⟨rfl, -, rfl⟩ := hvv
                have hblk := chg_heap0 HI5.out hcbk
                obtain ⟨p, hp⟩ : ∃ p, (ord rows)[i]? = some p := ⟨_, List.getElem?_eq_getElem (by omega)⟩
                have hpm : p ∈ rows.flatten := (ord_perm rows).mem_iff.1 (List.mem_of_getElem? hp)
                have hfp := find_nd hv0.ids hpm
                have hcell := hcc i 0 (by rw [List.length_map]; omega) (by omega)
                have r_s : wr.cell? ⟨gs, i, none⟩ = some (.int .i64 p.id) := by
                  rw [Nat.mul_one, Nat.add_zero, List.getD_eq_getElem?_getD, List.getElem?_map, hp] at hcell
                  exact cell_of hblk i hcell
                have hv := hv0.keep HI5.out (fun _ _ f => f.elim)
                have hst := stake_yes hv hfp
                have hba := bag_yes hv hfp
                have hb := hbag p hpm
                have hrb := rbag_any (w := wr) (A := A0) c0 (HH.out.2.2.1.below (hbl5.trans (HI5.out.below (fun a ha => ⟨Nat.lt_of_lt_of_le ha hbl5.size, fun f => f⟩)))) HRR.out.1 HRR.out.2 p.stake
                rw [← HH.out.1] at hrb
                rw [← hb] at hrb
                obtain ⟨id, hid⟩ : ∃ id, id = p.id := ⟨_, rfl⟩
                obtain ⟨st, hst2⟩ : ∃ st, st = p.stake := ⟨_, rfl⟩
                obtain ⟨bg, hbg⟩ : ∃ bg, bg = p.bag := ⟨_, rfl⟩
                rw [← hid] at r_s hst hba hfp
                rw [← hst2] at hst hrb
                rw [← hbg] at hba hrb
                have HQ := Lib.hid (⟨hv, hfp, hb, hp, hbg, hol, hl200, hij⟩ : _ ∧ _ ∧ _ ∧ _ ∧ _ ∧ _ ∧ _ ∧ _)
                have HBK := Lib.hid hcbk
                have HCC := Lib.hid hcc
                clear hv0 hflen hbag hbl5 hl200 ho hol hvo hcbk hcc hblk hp hpm hfp hcell hv hb hid hst2 hbg
                go_wp2_with fail
                refine hst.mono ?_
                rintro e w' ⟨rfl, hww⟩
                obtain rfl : wr = w' := hww.symm
                clear hst
                go_wp2_with fail
                refine hba.mono ?_
                rintro e w' ⟨rfl, hww⟩
                obtain rfl : wr = w' := hww.symm
                clear hba
                go_wp2_with fail
                refine hrb.mono ?_
                rintro e w6 ⟨rfl, hC6⟩
                obtain ⟨hv, hfp, hb, hp, hbg, hol, hl2, hij2⟩ := HQ.out
                have hv6 := hv.keep hC6 (fun _ _ f => f.elim)
                have hrs := rebag_same hv6 hfp hb.symm
                have r6 := chg_cell hC6 r_s (fun f => f)
                have HC6 := Lib.hid (HI5.out.trans hC6 (fun _ _ f => f))
                have HV6 := Lib.hid hv6
                clear hrb hv hfp hb hp hbg hol hv6 hC6 r_s hl2 hij2
                go_wp2_with fail
                refine hrs.mono ?_
                rintro e w' ⟨rfl, hww⟩
                obtain rfl : w6 = w' := hww.symm
                clear hrs
                by_cases hi0 : i = 0
                · subst hi0
                  clear r6
                  go_wp2
                  go_roundw
                  case rel => exact ⟨1, by go_num, by omega, HC6⟩
                  case measure =>
                    simp only [intOf]
                    omega
                · obtain ⟨q, hqi⟩ : ∃ q, i = q + 1 := ⟨i - 1, by omega⟩
                  subst hqi
                  obtain ⟨hv, hfp, hb, hp, hbg, hol, hl2, hij2⟩ := HQ.out
                  obtain ⟨p', hp'⟩ : ∃ p', (ord rows)[q]? = some p' := ⟨_, List.getElem?_eq_getElem (by omega)⟩
                  have hpm' : p' ∈ rows.flatten := (ord_perm rows).mem_iff.1 (List.mem_of_getElem? hp')
                  have hba := bag_yes HV6.out (find_nd HV6.out.ids hpm')
                  have hso := (ord_sorted HV6.out.bags rows.length (Nat.le_refl _)).1
                  rw [List.take_length] at hso
                  have hle : ¬ (p'.bag : Int) < (bg : Int) := by
                    obtain ⟨a1, e1⟩ := List.getElem?_eq_some_iff.1 hp'
                    obtain ⟨a2, e2⟩ := List.getElem?_eq_some_iff.1 hp
                    have := List.pairwise_iff_getElem.1 hso q (q + 1) a1 a2 (by omega)
                    rw [e1, e2, ← hbg] at this
                    omega
                  have hblk := chg_heap0 HC6.out HBK.out
                  have hcell := HCC.out q 0 (by rw [List.length_map]; omega) (by omega)
                  have r_q : w6.cell? ⟨gs, q, none⟩ = some (.int .i64 p'.id) := by
                    rw [Nat.mul_one, Nat.add_zero, List.getD_eq_getElem?_getD, List.getElem?_map, hp'] at hcell
                    exact cell_of hblk q hcell
                  obtain ⟨id', hid'⟩ : ∃ id, id = p'.id := ⟨_, rfl⟩
                  obtain ⟨bg', hbg'⟩ : ∃ bg, bg = p'.bag := ⟨_, rfl⟩
                  rw [← hid'] at r_q hba
                  rw [← hbg'] at hba hle
                  have hwq : IntKind.i64.wrap (q : Int) = q := by rw [wrap_i (by omega) (by omega)]
                  have hqj : (q : Int) < j := by omega
                  have HW := Lib.hid (show wrap64 ((q : Int) + 1 + 1) = ((q + 1 + 1 : Nat) : Int) by unfold wrap64; omega)
                  clear hv hfp hb hp hbg hol hl2 hij2 hp' hpm' hso hblk hcell hid' hbg' r6
                  go_wp2_with fail
                  refine hba.mono ?_
                  rintro e w' ⟨rfl, hww⟩
                  obtain rfl : w6 = w' := hww.symm
                  clear hba r_q
                  go_wp2
                  go_roundw
                  case rel => exact ⟨q + 1 + 1, by rw [HW.out], by have := HQ.out.2.2.2.2.2.2.2; omega, HC6⟩
                  case measure =>
                    have := HQ.out.2.2.2.2.2.2.2
                    rw [HW.out]
                    simp only [intOf]
                    omega
              · obtain rfl : i = j := by omega
                obtain ⟨hv0, hflen, hbag, hbl5, hl200, ho, -⟩ := HF4.out
                have hln := len_v (hv0.keep HI5.out (fun _ _ f => f.elim))
                rw [hflen] at hln
                have HQ := Lib.hid (hbl5.trans (HI5.out.below (fun a ha => ⟨Nat.lt_of_lt_of_le ha hbl5.size, fun f => f⟩)))
                clear hv0 hflen hbag hbl5 hl200 ho
                go_wp2_with fail
                refine hln.mono ?_
                rintro e w' ⟨rfl, hww⟩
                obtain rfl : wr = w' := hww.symm
                clear hln
                go_wp2
                go_ret
                exact ⟨rfl, HQ.out⟩
  · have hnew := new_no (w := w1) (A := A0) c0 (by have := HH.out.1; omega) (HH.out.2.2.1.chg HC.out (fun _ _ f => f)) hR
    have hris := rising_any (w := w1) (A := A0) (T := T) c0 (by have := HH.out.1; omega) (HH.out.2.2.1.chg HC.out (fun _ _ f => f))
    rw [← HH.out.1] at hnew hris
    have HRR := Lib.hid hR
    clear hR
    go_wp2_with fail
    refine hnew.mono ?_
    rintro e w2 ⟨rfl, hw2⟩
    obtain rfl : w1 = w2 := hw2.symm
    clear hnew
    go_wp2_with fail
    refine hris.mono ?_
    rintro e w2 ⟨b, rfl, hC2, hb⟩
    have hbf : b = false := by
      cases b with
      | false => rfl
      | true => exact absurd (hb.1 rfl) HRR.out
    subst hbf
    have HC2 := Lib.hid (HC.out.trans hC2 (fun _ _ f => f))
    clear hb hris hC2
    go_wp2
    go_ret
    exact ⟨rfl, HC2.out.below (fun k hk => ⟨hk, id⟩)⟩
end Go.Proofs.Ythoagpagnldmeaa.V
namespace Go.Proofs.Ythoagpagnldmeaa
open Go.RowKit Go.Ps
theorem votersSettle_walk (A0 : Option Addr) (c0 : Nat) (T : List Int) (A1 : Option Addr) (c1 : Nat) (l : List (Int × Int × Int × Int)) (w : World) (hr0 : ReadsI w .u64 A0 T) (u0 : ∀ x ∈ T, (Lit.int .u64 x).wf = true) (y0 : T.length * 8 ≤ 140737488351232)
    (hr1 : Reads4 w .i64 .i64 .i64 .u64 A1 l ∧ ∀ z ∈ l, (Lit.int .i64 z.1).wf = true ∧ (Lit.int .i64 z.2.1).wf = true ∧ (Lit.int .i64 z.2.2.1).wf = true ∧ (Lit.int .u64 z.2.2.2).wf = true) :
    Calls Try.prog 9 #[.slice A0 T.length c0, .slice A1 l.length c1] w fun e w' => e = .returned (.bool true) ∧ Below w.heap.size w w' := V.votersSettle_walk A0 c0 T A1 c1 l w hr0 u0 y0 hr1
end Go.Proofs.Ythoagpagnldmeaa
