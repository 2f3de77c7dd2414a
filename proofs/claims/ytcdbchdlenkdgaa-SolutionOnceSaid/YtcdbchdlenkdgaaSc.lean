/- Solutions: the program's Encode. -/
import Derived.Test.YtcdbchdlenkdgaaSa
import Derived.Test.YtcdbchdlenkdgaaCf
set_option linter.unusedVariables false
set_option linter.unusedSimpArgs false
namespace Go.Proofs.Ytcdbchdlenkdgaa
open Go.RowKit Go.Ps

def SEncPost (x : Sol) (w : World) (e : Ending) (w' : World) : Prop := ∃ v, e = .returned (.tuple #[v, .int .i64 (if formedS x = true then 0 else 1)]) ∧ NewB w w' v (if formedS x = true then encS x else [])
/-- What stands behind the members, the first k edges. -/
def edgeNums (x : Sol) (k : Nat) : List Int := (x.edges.length : Int) :: flat (x.edges.take k)
theorem take_snoc3 (l : List (Int × Int × Int)) (k : Nat) (h : k < l.length) : l.take (k + 1) = l.take k ++ [l.getD k d3] := by
  rw [List.take_succ_eq_append_getElem h, List.getD_eq_getElem?_getD, List.getElem?_eq_getElem h]; rfl
theorem edgeNums_step (x : Sol) (k : Nat) (h : k < x.edges.length) : edgeNums x (k + 1) = edgeNums x k ++ [(x.edges.getD k d3).1, (x.edges.getD k d3).2.1, (x.edges.getD k d3).2.2] := by
  unfold edgeNums
  rw [take_snoc3 _ _ h, flat_append]
  simp [flat]
theorem edgeNums_length (x : Sol) (k : Nat) (h : k ≤ x.edges.length) : (edgeNums x k).length = 3 * k + 1 := by
  unfold edgeNums
  simp [flat_length, List.length_take]; omega
def tailNums (x : Sol) : List Int := edgeNums x x.edges.length ++ [x.mn, x.sm, x.hi, x.lo]
theorem encS_split (x : Sol) : encS x = encL x.com ++ encs (tailNums x) := by
  unfold encS numsS tailNums edgeNums encL
  simp [encs, encs_append]
theorem tailNums_u64 {x : Sol} (hk : x.ok) (hf : formedS x = true) : AllU (tailNums x) := by
  intro n hn
  refine numsS_u64 hk hf n ?_
  unfold tailNums edgeNums at hn
  unfold numsS
  simp at hn ⊢
  right; right
  exact hn
theorem tailNums_length (x : Sol) : (tailNums x).length = 3 * x.edges.length + 5 := by
  unfold tailNums
  rw [List.length_append, edgeNums_length x _ (Nat.le_refl _)]
  simp
theorem u64wrap {n : Int} (h : 0 ≤ n ∧ n < 18446744073709551616) : IntKind.u64.wrap n = n := by simp [IntKind.wrap, IntKind.bits, IntKind.signed]; omega
set_option maxRecDepth 20000 in
set_option maxHeartbeats 4000000 in
theorem sencode_any (x : Sol) (A : Option Addr) (c : Nat) (B : Option Addr) (d : Nat) (w : World) (hx : x.ok) (hA : ReadsI w .i64 A x.com) (hB : Reads3 w .i64 .i64 .u64 B x.edges) : Calls Try.prog 29 #[sv x A c B d] w (SEncPost x w) := by
  have hfo := fun W h1 h2 => sformed_any x A c B d W h1 h2
  by_cases hf : formedS x = true
  · have hcom := formed_com hf
    have hedge := formed_edge hf
    have htu := tailNums_u64 hx hf
    have htl := tailNums_length x
    have hes := encS_split x
    have hst := edgeNums_step x
    have hel := edgeNums_length x
    have hten : tailNums x = edgeNums x x.edges.length ++ [x.mn, x.sm, x.hi, x.lo] := rfl
    have he0 : edgeNums x 0 = [(x.edges.length : Int)] := rfl
    obtain ⟨h8, h256, _, _⟩ := (formedS_iff x).1 hf
    have fin : ∀ W v, NewB w W v (encS x) → SEncPost x w (.returned (.tuple #[v, .int .i64 0])) W := fun W v h => ⟨v, by rw [if_pos hf], by rw [if_pos hf]; exact h⟩
    obtain ⟨T, hT⟩ : ∃ T, T = tailNums x := ⟨_, rfl⟩
    obtain ⟨EN, hEN⟩ : ∃ EN, EN = edgeNums x := ⟨_, rfl⟩
    rw [hes] at fin
    rw [← hT] at fin htu htl hten
    rw [← hEN] at hst hel hten he0
    unfold BoolPost at hfo
    rw [hf] at hfo
    obtain ⟨com, edges, mn, sm, hi, lo⟩ := x
    obtain ⟨_, hu2, u3, u4, u5, u6⟩ := hx
    unfold sv at *
    simp only at *
    obtain ⟨w1, hw1⟩ : ∃ w1, w1 = w.alloc (.cells #[.slice A com.length c, .slice B edges.length d, .int .u64 mn, .int .u64 sm, .int .u64 hi, .int .u64 lo] 49) := ⟨_, rfl⟩
    have hC1 : Chg (fun _ => False) w w1 := by rw [hw1]; exact (Chg.refl _ _).alloc _
    have hg1 : w1.heap[w.heap.size]? = some (.cells #[.slice A com.length c, .slice B edges.length d, .int .u64 mn, .int .u64 sm, .int .u64 hi, .int .u64 lo] 49) := by rw [hw1]; exact heap_alloc_at _ _
    obtain ⟨g, hg⟩ : ∃ g, g = w.heap.size := ⟨_, rfl⟩
    rw [← hg] at hg1
    obtain ⟨c0, c1, c2, c3, c4, c5⟩ := read6 hg1
    have hfo := hfo w1 (hA.chg hC1 (fun _ _ => id)) (hB.chg hC1 (fun _ _ => id))
    have HFO := Lib.hid hfo
    have HW := Lib.hid hw1
    have HC1 := Lib.hid hC1
    have HG := Lib.hid hg1
    have HA := Lib.hid hA
    have HB := Lib.hid hB
    have HGE := Lib.hid hg
    have HCOM := Lib.hid hcom
    have HEDGE := Lib.hid hedge
    have HU2 := Lib.hid hu2
    have HTU := Lib.hid htu
    have HTL := Lib.hid htl
    have HTEN := Lib.hid hten
    have HST := Lib.hid hst
    have HEL := Lib.hid hel
    have HE0 := Lib.hid he0
    have FIN := Lib.hid fin
    clear hw1 hC1 hg1 hA hB hg hcom hedge hu2 htu htl hten hst hel he0 fin hfo hf hes hT hEN
    go_enter Try.func29, Try.ntmps29
    go_upto_region 1 with (fail)
    rw [← HW.out, ← HGE.out]
    clear HW HGE
    go_wp2_with fail
    refine HFO.out.mono ?_
    rintro e2 w2 ⟨rfl, hC2⟩
    have hCC := chg_trans HC1.out hC2
    have hg2 := chg_heap hC2 HG.out
    have HC2 := Lib.hid hCC
    have HG2 := Lib.hid hg2
    have hN0 : New 24 .u64 w2 (w2.alloc (.cells #[] 24)) (.slice (some ⟨w2.heap.size, 0, none⟩) 0 0) [] := new_lit24 w2 [] (by simp)
    have hg3 := heap_alloc_ne (o := .cells #[] 24) hg2
    obtain ⟨g0, hg0⟩ : ∃ g, g = w2.heap.size := ⟨_, rfl⟩
    obtain ⟨w3, hw3⟩ : ∃ w3, w3 = w2.alloc (.cells #[] 24) := ⟨_, rfl⟩
    rw [← hw3, ← hg0] at hN0
    rw [← hw3] at hg3
    have HN0 := Lib.hid hN0
    have HW3 := Lib.hid hw3
    have HG0 := Lib.hid hg0
    clear hC2 hCC hg2 hN0 hw3 hg0 c0 c1 c2 c3 c4 c5 HFO
    obtain ⟨c0, c1, c2, c3, c4, c5⟩ := read6 hg3
    clear hg3
    go_upto_region 4 with (fail)
    rw [← HW3.out]
    rw [← HG0.out]
    clear HG0 HW3
    go_wp2
    go_loopw [4, 19] (fun v i wr => ∃ (k n : Nat) (A3 : Option Addr) (c3 : Nat), k ≤ com.length ∧ i = .int .i64 k ∧ v = .slice A3 n c3 ∧ Hid (n = (com.take k).length) ∧ Hid (New 24 .u64 w2 wr (.slice A3 n c3) (com.take k))) (fun _ i _ => com.length - (intOf i).toNat)
    case atStart => exact ⟨0, 0, some ⟨g0, 0, none⟩, 0, by omega, rfl, rfl, Lib.hid (by simp), HN0⟩
    case round =>
      obtain ⟨k, n, A3, cc3, hk, rfl, rfl, hn, hN⟩ := hrel
      clear c0 c1 c2 c3 c4 c5
      obtain ⟨c0, c1, c2, c3, c4, c5⟩ := read6 (chg_heap hN.out.2.1 HG2.out)
      by_cases hk2 : k < com.length
      · obtain ⟨ga, oa, rfl, hxx⟩ := (HA.out.chg (chg_trans HC2.out hN.out.2.1) (fun _ _ => id)).plain (by rintro rfl; simp at hk2)
        have p1 := hxx k hk2
        have hts := take_snoc com k hk2
        obtain ⟨p, hp⟩ : ∃ p, p = com.getD k 0 := ⟨_, rfl⟩
        have hpm : p ∈ com := by rw [hp, List.getD_eq_getElem?_getD, List.getElem?_eq_getElem hk2]; exact List.getElem_mem hk2
        obtain ⟨⟨hp0, _⟩, hp31⟩ := HCOM.out p hpm
        rw [← hp] at p1 hts
        have hnk : n ≤ 8 := by have := hn.out; rw [List.length_take] at this; omega
        have hwp := u64wrap (n := p) (by omega)
        obtain ⟨A4, c4', w4, hap, hN4⟩ := New.push hN.out Try.underlying29 info24 hn.out.symm p (by omega) (by omega)
        rw [← hts] at hN4
        have HN4 := Lib.hid hN4
        have hn4 : Hid (n + 1 = (com.take (k + 1)).length) := Lib.hid (by rw [hts, List.length_append, List.length_singleton]; have := hn.out; omega)
        clear hN4 hts hp hpm hxx
        go_wp2_with (at_builtin; refine wpList_append_run rfl (.tmp 23) (.tmp 26) 29 rfl _ _ _ _ rfl rfl hap ?_)
        go_roundw
        case rel => exact ⟨k + 1, n + 1, A4, c4', by omega, by go_num, rfl, hn4, HN4⟩
        case measure => simp [intOf]; omega
      · obtain rfl : k = com.length := by omega
        rw [List.take_length] at hn hN
        obtain ⟨_, _, he, hr3⟩ := New.form hN.out
        cases he
        have h25 := list_any wr none A3 0 cc3 [] com (fun h => absurd rfl h) hr3 (fun n hn => (HCOM.out n hn).1) (by simp; omega)
        simp only [List.length_nil, List.nil_append] at h25
        have HN3 := Lib.hid hN.out
        clear hN hn hr3
        go_wp2_with fail
        refine h25.mono ?_
        rintro e5 w5 ⟨v5, rfl, hN5⟩
        obtain ⟨A5, n5, d5, rfl, hn5, hr5⟩ := New.form3 hN5
        have hg5 := chg_heap hN5.2.1 (chg_heap HN3.out.2.1 HG2.out)
        have hC5 := chg_trans (chg_trans HC2.out HN3.out.2.1) hN5.2.1
        obtain ⟨en, hen⟩ : ∃ n, n = edges.length := ⟨_, rfl⟩
        have hN6 : New 24 .u64 w5 (w5.alloc (.cells #[.int .u64 (en : Int)] 24)) (.slice (some ⟨w5.heap.size, 0, none⟩) 1 1) [(en : Int)] := new_lit24 w5 [(en : Int)] (by simp)
        obtain ⟨w6, hw6⟩ : ∃ w6, w6 = w5.alloc (.cells #[.int .u64 (en : Int)] 24) := ⟨_, rfl⟩
        obtain ⟨g6, hg6⟩ : ∃ g6, g6 = w5.heap.size := ⟨_, rfl⟩
        have hg6b := heap_alloc_ne (o := .cells #[.int .u64 (en : Int)] 24) hg5
        rw [← hw6, ← hg6] at hN6
        rw [← hw6] at hg6b
        rw [hen, ← HE0.out] at hN6
        have HN6 := Lib.hid hN6
        have HC5 := Lib.hid hC5
        have HN5 := Lib.hid hN5
        have HR5 := Lib.hid hr5
        have HL5 := Lib.hid hn5
        have HG5 := Lib.hid hg5
        have HW6 := Lib.hid hw6
        have HG6 := Lib.hid hg6
        have hwe := u64wrap (n := (en : Int)) (by omega)
        rw [hen] at hwe
        clear h25 hN5 hr5 hn5 hg5 hC5 hN6 hw6 hg6 c0 c1 c2 c3 c4 c5 HN0
        obtain ⟨x0, x1, x2, x3, x4, x5⟩ := read6 hg6b
        obtain ⟨c0, c1, c2, c3, c4, c5⟩ := read6 HG5.out
        clear hg6b
        simp only []
        go_upto_region 11 with (fail)
        rw [← hen, ← HW6.out, ← HG6.out]
        subst hen
        clear HW6 HG6 c0 c1 c2 c3 c4 c5
        go_wp2
        go_loopw [4, 39] (fun v i wr => ∃ (k n : Nat) (A3 : Option Addr) (c3 : Nat), k ≤ edges.length ∧ i = .int .i64 k ∧ v = .slice A3 n c3 ∧ Hid (n = (EN k).length) ∧ Hid (New 24 .u64 w5 wr (.slice A3 n c3) (EN k))) (fun _ i _ => edges.length - (intOf i).toNat)
        case atStart => exact ⟨0, 1, some ⟨g6, 0, none⟩, 1, by omega, rfl, rfl, Lib.hid (by rw [HE0.out]; rfl), HN6⟩
        case round =>
          obtain ⟨k, n, A6, cc6, hk, rfl, rfl, hn, hN⟩ := hrel
          clear x0 x1 x2 x3 x4 x5
          by_cases hk2 : k < edges.length
          · obtain ⟨gb, ob, rfl, hxx⟩ := (HB.out.chg (chg_trans HC5.out hN.out.2.1) (fun _ _ => id)).plain (by omega)
            obtain ⟨e1, e2, e3⟩ := hxx k hk2
            have hbl := World.block_lt_of_cell? wr _ e1
            simp only at hbl
            obtain ⟨x0, x1, x2, x3, x4, x5⟩ := read6 (chg_heap hN.out.2.1 HG5.out)
            have hst := HST.out k hk2
            have hlk := HEL.out k hk
            obtain ⟨⟨v, cc, u⟩, hp⟩ : ∃ p, p = edges.getD k d3 := ⟨_, rfl⟩
            have hpm : (v, cc, u) ∈ edges := by rw [hp, List.getD_eq_getElem?_getD, List.getElem?_eq_getElem hk2]; exact List.getElem_mem hk2
            obtain ⟨⟨⟨hv0, _⟩, hv1⟩, ⟨⟨hc0, _⟩, hc1⟩, _⟩ := HEDGE.out _ hpm
            rw [← hp] at e1 e2 e3 hst
            simp only at e1 e2 e3 hst hv0 hv1 hc0 hc1
            have hwv := u64wrap (n := v) (by omega)
            have hwc := u64wrap (n := cc) (by omega)
            obtain ⟨wq, hwq⟩ : ∃ wq, wq = wr.alloc (.cells #[.int .i64 v, .int .i64 cc, .int .u64 u] 74) := ⟨_, rfl⟩
            have hNq : New 24 .u64 w5 wq (.slice A6 n cc6) (EN k) := by rw [hwq]; exact New.chg hN.out ((Chg.refl _ _).alloc _)
            have hgq : wq.heap[wr.heap.size]? = some (.cells #[.int .i64 v, .int .i64 cc, .int .u64 u] 74) := by rw [hwq]; exact heap_alloc_at _ _
            obtain ⟨A7, c7', w7, hap, hN7⟩ := New.app (P := Try.prog) (t := 29) (cB := 3) (B := some ⟨wq.heap.size, 0, none⟩) (x := [v, cc, u]) (hNq.chg ((Chg.refl _ _).alloc (.cells #[.int .u64 v, .int .u64 cc, .int .u64 u] 24))) Try.underlying29 info24 hn.out.symm (ReadsI.of_block (t := 24) (fr := (0, 0)) (heap_alloc_at _ _)) (by simp; have := hn.out; omega) (by omega)
            simp only [List.length_cons, List.length_nil, Nat.zero_add] at hap hN7
            rw [← hst] at hN7
            have HN7 := Lib.hid hN7
            have hn7 : Hid (n + (1 + 1 + 1) = (EN (k + 1)).length) := Lib.hid (by rw [hst, List.length_append]; have := hn.out; simp; omega)
            obtain ⟨q0, q1, q2⟩ : wq.cell? ⟨wr.heap.size, 0, none⟩ = some (.int .i64 v) ∧ wq.cell? ⟨wr.heap.size, 1, none⟩ = some (.int .i64 cc) ∧ wq.cell? ⟨wr.heap.size, 2, none⟩ = some (.int .u64 u) := ⟨cell_of hgq 0 rfl, cell_of hgq 1 rfl, cell_of hgq 2 rfl⟩
            obtain ⟨gq, hgqe⟩ : ∃ gq, gq = wr.heap.size := ⟨_, rfl⟩
            rw [← hgqe] at q0 q1 q2
            have HWQ := Lib.hid hwq
            have HGQ := Lib.hid hgqe
            clear hN7 hNq hgq hwq hst hlk hp hpm hxx hgqe
            go_upto_region 14 with (fail)
            rw [← HWQ.out, ← HGQ.out]
            clear HWQ HGQ e1 e2 e3 x0 x1 x2 x3 x4 x5 hbl
            go_wp2_with (at_builtin; refine wpList_append_run rfl (.tmp 43) (.tmp 52) 29 rfl _ _ _ _ rfl rfl hap ?_)
            go_roundw
            case rel => exact ⟨k + 1, n + (1 + 1 + 1), A7, c7', by omega, by go_num, rfl, hn7, HN7⟩
            case measure => simp [intOf]; omega
          · obtain rfl : k = edges.length := by omega
            obtain ⟨x0, x1, x2, x3, x4, x5⟩ := read6 (chg_heap hN.out.2.1 HG5.out)
            have hlk := HEL.out edges.length (Nat.le_refl _)
            obtain ⟨A7, c7', w7, hap, hN7⟩ := New.app (P := Try.prog) (t := 29) (cB := 4) (B := some ⟨wr.heap.size, 0, none⟩) (x := [mn, sm, hi, lo]) (hN.out.chg ((Chg.refl _ _).alloc (.cells #[.int .u64 mn, .int .u64 sm, .int .u64 hi, .int .u64 lo] 24))) Try.underlying29 info24 hn.out.symm (ReadsI.of_block (t := 24) (fr := (0, 0)) (heap_alloc_at _ _)) (by simp; have := hn.out; omega) (by omega)
            simp only [List.length_cons, List.length_nil, Nat.zero_add] at hap hN7
            rw [← HTEN.out] at hN7
            have hn7 : n + (1 + 1 + 1 + 1) = T.length := by have := hn.out; have := HTL.out; omega
            obtain ⟨NT, hNT⟩ : ∃ NT, NT = n + (1 + 1 + 1 + 1) := ⟨_, rfl⟩
            rw [← hNT] at hap hN7 hn7
            have hNT2 : NT ≤ 2000 := by have := HTL.out; omega
            obtain ⟨_, _, he7, hr7⟩ := New.form hN7
            cases he7
            have HR7 := Lib.hid hr7
            have HN7 := Lib.hid hN7
            clear hN7 hlk hr7 hn7 hNT
            go_wp2_with (at_builtin; refine wpList_append_run rfl (.tmp 55) (.tmp 68) 29 rfl _ _ _ _ rfl rfl hap ?_)
            clear hap x0 x1 x2 x3 x4 x5
            have hN5 : NewB w w7 (.slice A5 n5 d5) (encL com) := New.after HC2.out (New.after HN3.out.2.1 (New.chg HN5.out HN7.out.2.1))
            have HN5b := Lib.hid hN5
            have hcl : (encL com).length ≤ 81 := by have := encL_length com; omega
            clear hN5
            go_loopw [7, 72] (fun v i wr => ∃ (k n : Nat) (A : Option Addr) (c : Nat), k ≤ T.length ∧ i = .int .i64 k ∧ v = .slice A n c ∧ Hid (NewB w wr (.slice A n c) (encL com ++ encs (T.take k))) ∧ Hid (Chg (fun _ => False) w7 wr)) (fun _ i _ => T.length - (intOf i).toNat)
            case atStart => exact ⟨0, n5, A5, d5, by omega, rfl, rfl, Lib.hid (by simp only [List.take_zero, encs, List.append_nil]; exact HN5b.out), Lib.hid (Chg.refl _ _)⟩
            case round =>
              obtain ⟨k, n, A8, c8, hk, rfl, rfl, hN, hC⟩ := hrel
              obtain ⟨_, _, he, hr8⟩ := New.form hN.out
              cases he
              by_cases hk2 : k < T.length
              · obtain ⟨g1, o1, rfl, hx⟩ := HR7.out.plain (by rintro rfl; simp at hk2)
                have hcell := chg_cell hC.out (hx k hk2) id
                have hu := HTU.out.getD k
                have hs := encs_take T k hk2
                have hlen := encs_take_length T k
                obtain ⟨M, hM⟩ : ∃ M, M = encL com ++ encs (T.take k) := ⟨_, rfl⟩
                have hs2 : M ++ enc (T.getD k 0) = encL com ++ encs (T.take (k + 1)) := by rw [hs, hM]; simp
                have hMl : M.length ≤ 81 + 9 * k := by rw [hM, List.length_append]; omega
                rw [← hM] at hN hr8 ⊢
                obtain ⟨y, hy⟩ : ∃ y, y = T.getD k 0 := ⟨_, rfl⟩
                rw [← hy] at hcell hu hs2
                have ha := append_any wr A8 c8 M y hr8 (by omega) hu
                have HS := Lib.hid hs2
                clear hs hM hy hs2 hr8 hx hlen
                go_wp2_with fail
                refine ha.mono ?_
                rintro e6 w8 ⟨v6, rfl, hN6⟩
                obtain ⟨A6, n6, d6, rfl, hn6, _⟩ := New.form3 hN6
                clear hn6
                have hf := hN6.after hN.out.2.1
                rw [HS.out] at hf
                have hC6 := Lib.hid (chg_trans hC.out hN6.2.1)
                have HF := Lib.hid hf
                clear hf hN6 ha hN hC hcell
                go_wp2
                go_roundw
                case rel => exact ⟨k + 1, n6, A6, d6, by omega, by go_num, rfl, HF, hC6⟩
                case measure => simp [intOf]; omega
              · obtain rfl : k = T.length := by omega
                have hfin := FIN.out wr _ (by have := hN.out; rw [List.take_length] at this; exact this)
                have HFIN := Lib.hid hfin
                rw [List.take_length] at *
                clear hfin hr8 hN
                go_wp2
                go_ret2
                exact HFIN.out
  · have hf' : formedS x = false := by simpa using hf
    unfold BoolPost at hfo
    rw [hf'] at hfo
    have fin : ∀ W, Chg (fun _ => False) w W → SEncPost x w (.returned (.tuple #[.slice none 0 0, .int .i64 1])) W := fun W hW => ⟨_, by rw [if_neg hf], by rw [if_neg hf]; exact (New.nil _ _ _).chg hW⟩
    obtain ⟨com, edges, mn, sm, hi, lo⟩ := x
    unfold sv at *
    simp only at *
    obtain ⟨w1, hw1⟩ : ∃ w1, w1 = w.alloc (.cells #[.slice A com.length c, .slice B edges.length d, .int .u64 mn, .int .u64 sm, .int .u64 hi, .int .u64 lo] 49) := ⟨_, rfl⟩
    have hC1 : Chg (fun _ => False) w w1 := by rw [hw1]; exact (Chg.refl _ _).alloc _
    have hg1 : w1.heap[w.heap.size]? = some (.cells #[.slice A com.length c, .slice B edges.length d, .int .u64 mn, .int .u64 sm, .int .u64 hi, .int .u64 lo] 49) := by rw [hw1]; exact heap_alloc_at _ _
    obtain ⟨g, hg⟩ : ∃ g, g = w.heap.size := ⟨_, rfl⟩
    rw [← hg] at hg1
    obtain ⟨c0, c1, c2, c3, c4, c5⟩ := read6 hg1
    have HFO := Lib.hid (hfo w1 (hA.chg hC1 (fun _ _ => id)) (hB.chg hC1 (fun _ _ => id)))
    have HW := Lib.hid hw1
    have HC1 := Lib.hid hC1
    have HGE := Lib.hid hg
    have FIN := Lib.hid fin
    clear hw1 hC1 hg1 hA hB hg fin hfo hf hf'
    go_enter Try.func29, Try.ntmps29
    go_upto_region 1 with (fail)
    rw [← HW.out, ← HGE.out]
    clear HW HGE
    go_wp2_with fail
    refine HFO.out.mono ?_
    rintro e2 w2 ⟨rfl, hC2⟩
    have HC2 := Lib.hid (chg_trans HC1.out hC2)
    clear hC2
    go_wp2
    go_ret2
    exact FIN.out _ HC2.out
end Go.Proofs.Ytcdbchdlenkdgaa
