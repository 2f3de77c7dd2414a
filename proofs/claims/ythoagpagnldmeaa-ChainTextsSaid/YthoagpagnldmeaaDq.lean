/- A call on both chains: Move and Set. -/
import Derived.Test.YthoagpagnldmeaaDo
import Derived.RegionTactic
import Derived.ChangeAlike
set_option linter.unusedVariables false
set_option linter.unusedSimpArgs false
namespace Go.Proofs.Ythoagpagnldmeaa
open Go.RowKit Go.Ps
set_option maxRecDepth 20000 in
set_option maxHeartbeats 2000000 in
theorem do_5 {w0 W : World} {g c : Nat} {mp : Option Nat} {X : List Mem} {L : List (Int × Int)} {v : Value} {n : Int} (a b z : Int) (h : Sim w0 W g c mp X L v n) (h0 : 0 ≤ n) (h1 : n < 1000) (hl : L.length ≤ 1000) :
    Calls Try.prog 24 #[.pointer (some ⟨g, 0, none⟩), .pointer (some ⟨c, 0, none⟩), .agg #[.int .i64 5, .int .i64 a, .int .i64 b, .int .i64 z]] W (DoPost w0 g c n L.length) := by
  have hlX := h.nm.length
  obtain ⟨r, hr⟩ : ∃ r, r = W.heap.size := ⟨_, rfl⟩
  obtain ⟨V, hV⟩ : ∃ V, V = W.alloc (.cells #[.int .i64 5, .int .i64 a, .int .i64 b, .int .i64 z] 37) := ⟨_, rfl⟩
  have hVC : Chg (fun _ => False) W V := by rw [hV]; exact (Chg.refl _ W).alloc _
  have hb : V.heap[r]? = some (.cells #[.int .i64 5, .int .i64 a, .int .i64 b, .int .i64 z] 37 (0, 0)) := by rw [hV, hr]; exact heap_alloc_at _ _
  have hrm : ¬ Mine g mp X r := fun hm => by have := h.ch.lt hm; omega
  have hrc : r ≠ c := by have := heap_lt h.rf.cell; omega
  have hrv : v.ownBlock ≠ some r := fun e => by have := h.rf.own.lt e; omega
  have hS := h.keep hVC
  obtain ⟨q0, q1, q2, q3⟩ := read4 hb
  have HV := Lib.hid hV
  have HR := Lib.hid hr
  clear h hV hr
  have hSd := hS.drew
  cases hk : findH X a with
  | none =>
    have hre := move_none (j := b) hSd.ch (.inl hk)
    have hrf := rmove_none a b hSd.rf (by omega) (.inl (nm_none hS.nm hk))
    clear hk
    have FIN := Lib.hid (show DoPost w0 g c n L.length (.returned (.bool true)) V.drew from ⟨rfl, _, _, _, _, _, hSd, by omega, by omega, by omega⟩)
    clear hS hSd hb hVC hrm hrc hrv h0 h1 hl hlX
    go_enter Try.func24, Try.ntmps24
    go_upto_region 1 with (fail)
    rw [← HV.out, ← HR.out]
    go_wp2_with fail
    refine J.wp_region_seq (fun W => W.cell? ⟨r, 1, none⟩ = some (.int .i64 a) ∧ W.cell? ⟨r, 2, none⟩ = some (.int .i64 b)) [(0, 0), (1, 0), (2, 0), (3, 0), (4, 0), (6, 0), (7, 0), (8, 0), (9, 0), (10, 0), (5, 1), (11, 1), (12, 0), (13, 0)] (by kernel_rfl) (by kernel_rfl) (by kernel_rfl) ⟨q1, q2⟩ ?_
    iterate 10 (apply J.look (by rfl) (by rfl); (focus (intro W hW; obtain ⟨hW1, hW2⟩ := hW; go_simp; exact HasV.val rfl)); simp only [Act.put, List.setIfInBounds_toArray, List.set_cons_zero, List.set_cons_succ])
    refine J.link (fun u W => u = .int .i64 5 ∧ W = V.drew) (by rfl) (by rfl) ?_ (fun u W hR => by rw [hR.2]; exact ⟨q1, q2⟩) ?_
    · go_simp
      refine J.HasR.call (hre.mono ?_)
      rintro e W2 ⟨rfl, rfl⟩
      exact ⟨_, rfl, rfl, rfl⟩
    rintro u W1 ⟨rfl, rfl⟩
    simp only [Act.put, List.setIfInBounds_toArray, List.set_cons_zero, List.set_cons_succ]
    refine J.link (fun u W => u = .int .i64 5 ∧ W = V.drew) (by rfl) (by rfl) ?_ (fun u W hR => by rw [hR.2]; exact ⟨q1, q2⟩) ?_
    · go_simp
      refine J.HasR.call (hrf.mono ?_)
      rintro e W2 ⟨rfl, rfl⟩
      exact ⟨_, rfl, rfl, rfl⟩
    rintro u W1 ⟨rfl, rfl⟩
    simp only [Act.put, List.setIfInBounds_toArray, List.set_cons_zero, List.set_cons_succ]
    iterate 2 (apply J.look (by rfl) (by rfl); (focus (intro W hW; go_simp; exact HasV.val rfl)); simp only [Act.put, List.setIfInBounds_toArray, List.set_cons_zero, List.set_cons_succ])
    refine J.fin ?_
    clear hre hrf
    go_wp2
    go_ret
    exact FIN.out

  | some m =>
    cases hj : findH X b with
    | none =>
      have hre := move_none hSd.ch (.inr hj) (k := a)
      obtain ⟨_, _, LA, _, _, -, -, -, -, -, -, hfn, -⟩ := nm_some hS.nm hS.ch.hs hk
      have hrf := rmove_none a b hSd.rf (by omega) (.inr ⟨⟨_, hfn⟩, nm_none hS.nm hj⟩)
      clear hk hj hfn
      have FIN := Lib.hid (show DoPost w0 g c n L.length (.returned (.bool true)) V.drew from ⟨rfl, _, _, _, _, _, hSd, by omega, by omega, by omega⟩)
      clear hS hSd hb hVC hrm hrc hrv h0 h1 hl hlX
      go_enter Try.func24, Try.ntmps24
      go_upto_region 1 with (fail)
      rw [← HV.out, ← HR.out]
      go_wp2_with fail
      refine J.wp_region_seq (fun W => W.cell? ⟨r, 1, none⟩ = some (.int .i64 a) ∧ W.cell? ⟨r, 2, none⟩ = some (.int .i64 b)) [(0, 0), (1, 0), (2, 0), (3, 0), (4, 0), (6, 0), (7, 0), (8, 0), (9, 0), (10, 0), (5, 1), (11, 1), (12, 0), (13, 0)] (by kernel_rfl) (by kernel_rfl) (by kernel_rfl) ⟨q1, q2⟩ ?_
      iterate 10 (apply J.look (by rfl) (by rfl); (focus (intro W hW; obtain ⟨hW1, hW2⟩ := hW; go_simp; exact HasV.val rfl)); simp only [Act.put, List.setIfInBounds_toArray, List.set_cons_zero, List.set_cons_succ])
      refine J.link (fun u W => u = .int .i64 5 ∧ W = V.drew) (by rfl) (by rfl) ?_ (fun u W hR => by rw [hR.2]; exact ⟨q1, q2⟩) ?_
      · go_simp
        refine J.HasR.call (hre.mono ?_)
        rintro e W2 ⟨rfl, rfl⟩
        exact ⟨_, rfl, rfl, rfl⟩
      rintro u W1 ⟨rfl, rfl⟩
      simp only [Act.put, List.setIfInBounds_toArray, List.set_cons_zero, List.set_cons_succ]
      refine J.link (fun u W => u = .int .i64 5 ∧ W = V.drew) (by rfl) (by rfl) ?_ (fun u W hR => by rw [hR.2]; exact ⟨q1, q2⟩) ?_
      · go_simp
        refine J.HasR.call (hrf.mono ?_)
        rintro e W2 ⟨rfl, rfl⟩
        exact ⟨_, rfl, rfl, rfl⟩
      rintro u W1 ⟨rfl, rfl⟩
      simp only [Act.put, List.setIfInBounds_toArray, List.set_cons_zero, List.set_cons_succ]
      iterate 2 (apply J.look (by rfl) (by rfl); (focus (intro W hW; go_simp; exact HasV.val rfl)); simp only [Act.put, List.setIfInBounds_toArray, List.set_cons_zero, List.set_cons_succ])
      refine J.fin ?_
      clear hre hrf
      go_wp2
      go_ret
      exact FIN.out

    | some x =>
      by_cases hab : a = b
      · subst hab
        obtain rfl : x = m := Option.some.inj (hj.symm.trans hk)
        have hre := move_same hSd.ch hk hk
        obtain ⟨_, _, LA, _, _, -, -, -, -, -, -, hfn, -⟩ := nm_some hS.nm hS.ch.hs hk
        have hrf := rmove_same a _ hSd.rf (by omega) hfn
        clear hk hj hfn
        have FIN := Lib.hid (show DoPost w0 g c n L.length (.returned (.bool true)) V.drew from ⟨rfl, _, _, _, _, _, hSd, by omega, by omega, by omega⟩)
        clear hS hSd hb hVC hrm hrc hrv h0 h1 hl hlX
        go_enter Try.func24, Try.ntmps24
        go_upto_region 1 with (fail)
        rw [← HV.out, ← HR.out]
        go_wp2_with fail
        refine J.wp_region_seq (fun W => W.cell? ⟨r, 1, none⟩ = some (.int .i64 a) ∧ W.cell? ⟨r, 2, none⟩ = some (.int .i64 a)) [(0, 0), (1, 0), (2, 0), (3, 0), (4, 0), (6, 0), (7, 0), (8, 0), (9, 0), (10, 0), (5, 1), (11, 1), (12, 0), (13, 0)] (by kernel_rfl) (by kernel_rfl) (by kernel_rfl) ⟨q1, q2⟩ ?_
        iterate 10 (apply J.look (by rfl) (by rfl); (focus (intro W hW; obtain ⟨hW1, hW2⟩ := hW; go_simp; exact HasV.val rfl)); simp only [Act.put, List.setIfInBounds_toArray, List.set_cons_zero, List.set_cons_succ])
        refine J.link (fun u W => u = .int .i64 1 ∧ W = V.drew) (by rfl) (by rfl) ?_ (fun u W hR => by rw [hR.2]; exact ⟨q1, q2⟩) ?_
        · go_simp
          refine J.HasR.call (hre.mono ?_)
          rintro e W2 ⟨rfl, rfl⟩
          exact ⟨_, rfl, rfl, rfl⟩
        rintro u W1 ⟨rfl, rfl⟩
        simp only [Act.put, List.setIfInBounds_toArray, List.set_cons_zero, List.set_cons_succ]
        refine J.link (fun u W => u = .int .i64 1 ∧ W = V.drew) (by rfl) (by rfl) ?_ (fun u W hR => by rw [hR.2]; exact ⟨q1, q2⟩) ?_
        · go_simp
          refine J.HasR.call (hrf.mono ?_)
          rintro e W2 ⟨rfl, rfl⟩
          exact ⟨_, rfl, rfl, rfl⟩
        rintro u W1 ⟨rfl, rfl⟩
        simp only [Act.put, List.setIfInBounds_toArray, List.set_cons_zero, List.set_cons_succ]
        iterate 2 (apply J.look (by rfl) (by rfl); (focus (intro W hW; go_simp; exact HasV.val rfl)); simp only [Act.put, List.setIfInBounds_toArray, List.set_cons_zero, List.set_cons_succ])
        refine J.fin ?_
        clear hre hrf
        go_wp2
        go_ret
        exact FIN.out

      · obtain ⟨_, _, LB0, _, _, -, -, -, -, -, -, hfnb, -⟩ := nm_some hS.nm hS.ch.hs hj
        obtain ⟨A, B, LA, zm, LB, rfl, rfl, hnA, hnB, hmv, hmh, hfn, hAl⟩ := nm_some hS.nm hS.ch.hs hk
        have hnAB := Nm.append hnA hnB
        have hhs : ((A ++ B).map (·.h)).Nodup := by
          have := hS.ch.hs
          simp only [List.map_append, List.map_cons] at this ⊢
          exact this.sublist (List.Sublist.append (List.Sublist.refl _) (List.sublist_cons_self _ _))
        obtain ⟨hxm, hxb⟩ := findH_some hj
        have hxAB : x ∈ A ++ B := by
          simp only [List.mem_append, List.mem_cons] at hxm ⊢
          rcases hxm with h2 | h2 | h2
          · exact .inl h2
          · subst h2; exact absurd (hmh.symm.trans hxb) hab
          · exact .inr h2
        have hjAB : findH (A ++ B) b = some x := by rw [← hxb]; exact findH_nd hhs hxAB
        obtain ⟨C, D, LC, zx, LD, hCD, hLCD, hnC, hnD, hxv, hxh, hfn2, hCl⟩ := nm_some hnAB hhs hjAB
        have hre := move_some hSd.ch hk hj hCD
        have e1 : (LA ++ (a, zm) :: LB).take LA.length ++ (LA ++ (a, zm) :: LB).drop (LA.length + 1) = LA ++ LB := by simp
        have e2 : (LA ++ (a, zm) :: LB).getD LA.length (0, 0) = (a, zm) := by simp [List.getD_eq_getElem?_getD]
        have e3 : (LA ++ LB).take LC.length = LC := by rw [hLCD, List.take_left]
        have e4 : (LA ++ LB).drop LC.length = (b, zx) :: LD := by rw [hLCD, List.drop_left]
        have e5 : LC.length ≤ (LA ++ LB).length := by rw [hLCD]; simp
        have e6 : (LC ++ (b, zx) :: LD).length = (LA ++ LB).length := by rw [hLCD]
        have hrfAll : ∀ W1 mp', Mid w0 W1 g c mp' (C ++ m :: x :: D) n (LA ++ (a, zm) :: LB) v n → Calls Try.prog 22 #[.pointer (some ⟨c, 0, none⟩), .int .i64 a, .int .i64 b] W1 (PutPost c (LC ++ (a, zm) :: (b, zx) :: LD) n W1 (.int .i64 0)) := fun W1 mp' hM => by
          have := rmove_some a b LA.length LB0.length LC.length hM.rf (by omega) hfn hfnb (by simp) hab (by rw [e1]; exact hfn2) (by rw [e1]; exact e5)
          rw [e1, e2, e3, e4] at this
          exact this
        have hnm : Nm (C ++ m :: x :: D) (LC ++ (a, zm) :: (b, zx) :: LD) := Nm.append hnC (by
          have h1 := Nm.cons hnD hxv
          rw [hxh] at h1
          have h2 := Nm.cons h1 hmv
          rw [hmh] at h2
          exact h2)
        have hlen : (LC ++ (a, zm) :: (b, zx) :: LD).length ≤ (LA ++ (a, zm) :: LB).length + 1 := by simp at e6 ⊢; omega
        have HS := Lib.hid hSd
        have HB := Lib.hid (⟨hb, hrm, hrc, hrfAll, hnm, hlen⟩ : _ ∧ _ ∧ _ ∧ _ ∧ _ ∧ _)
        obtain ⟨l0, hl0⟩ : ∃ l0, l0 = (LA ++ (a, zm) :: LB).length := ⟨_, rfl⟩
        have HL := Lib.hid hl0
        rw [← hl0]
        clear hS hSd hb hVC hrm hrc hrv h0 h1 hl hlX hk hj hfnb hnA hnB hmv hmh hfn hAl hnAB hhs hxm hxb hxAB hjAB hCD hLCD hnC hnD hxv hxh hfn2 hCl e1 e2 e3 e4 e5 e6 hrfAll hnm hlen hl0
        go_enter Try.func24, Try.ntmps24
        go_upto_region 1 with (fail)
        rw [← HV.out, ← HR.out]
        go_wp2_with fail
        refine J.wp_region_seq (fun W => W.cell? ⟨r, 1, none⟩ = some (.int .i64 a) ∧ W.cell? ⟨r, 2, none⟩ = some (.int .i64 b)) [(0, 0), (1, 0), (2, 0), (3, 0), (4, 0), (6, 0), (7, 0), (8, 0), (9, 0), (10, 0), (5, 1), (11, 1), (12, 0), (13, 0)] (by kernel_rfl) (by kernel_rfl) (by kernel_rfl) ⟨q1, q2⟩ ?_
        iterate 10 (apply J.look (by rfl) (by rfl); (focus (intro W hW; obtain ⟨hW1, hW2⟩ := hW; go_simp; exact HasV.val rfl)); simp only [Act.put, List.setIfInBounds_toArray, List.set_cons_zero, List.set_cons_succ])
        refine J.link (fun u W => u = .int .i64 0 ∧ ChPost 95 54 undef g mp (A ++ m :: B) (C ++ m :: x :: D) n V.drew W) (by rfl) (by rfl) ?_ (fun u W hR => ?_) ?_
        · go_simp
          refine J.HasR.call (hre.mono ?_)
          rintro e W2 ⟨rfl, hp⟩
          exact ⟨_, rfl, rfl, hp⟩
        · obtain ⟨_, mp', _, hC, _⟩ := hR
          exact ⟨chg_cell hC q1 HB.out.2.1, chg_cell hC q2 HB.out.2.1⟩
        rintro u W1 ⟨rfl, hp⟩
        simp only [Act.put, List.setIfInBounds_toArray, List.set_cons_zero, List.set_cons_succ]
        obtain ⟨mp', hM⟩ := HS.out.mid.real hp
        have hbW1 : W1.cell? ⟨r, 1, none⟩ = some (.int .i64 a) ∧ W1.cell? ⟨r, 2, none⟩ = some (.int .i64 b) := by
          obtain ⟨mp'', _, hC, _⟩ := hp
          exact ⟨chg_cell hC q1 HB.out.2.1, chg_cell hC q2 HB.out.2.1⟩
        have hrf := HB.out.2.2.2.1 W1 mp' hM
        refine J.link (fun u W2 => u = .int .i64 0 ∧ PutPost c (LC ++ (a, zm) :: (b, zx) :: LD) n W1 (.int .i64 0) (.returned (.int .i64 0)) W2) (by rfl) (by rfl) ?_ (fun u W2 hR => ?_) ?_
        · go_simp
          refine J.HasR.call (hrf.mono ?_)
          rintro e W2 hq
          obtain ⟨v', rfl, hq2⟩ := hq
          exact ⟨_, rfl, rfl, v', rfl, hq2⟩
        · obtain ⟨_, v', _, _, hC, _⟩ := hR
          exact ⟨chg_cell hC hbW1.1 HB.out.2.2.1, chg_cell hC hbW1.2 HB.out.2.2.1⟩
        rintro u W2 ⟨rfl, v', _, hR2, hC2, hf2⟩
        simp only [Act.put, List.setIfInBounds_toArray, List.set_cons_zero, List.set_cons_succ]
        have hsim := hM.ref HB.out.2.2.2.2.1 hR2 hC2 hf2
        have FIN := Lib.hid (show DoPost w0 g c n l0 (.returned (.bool true)) W2 from ⟨rfl, _, _, _, _, _, hsim, by omega, by omega, by rw [HL.out]; exact HB.out.2.2.2.2.2⟩)
        clear hp hM hbW1 hrf hR2 hC2 hf2 hsim hre
        iterate 2 (apply J.look (by rfl) (by rfl); (focus (intro W hW; go_simp; exact HasV.val rfl)); simp only [Act.put, List.setIfInBounds_toArray, List.set_cons_zero, List.set_cons_succ])
        refine J.fin ?_
        go_wp2
        go_ret
        exact FIN.out
set_option maxRecDepth 20000 in
set_option maxHeartbeats 2000000 in
theorem do_6 {w0 W : World} {g c : Nat} {mp : Option Nat} {X : List Mem} {L : List (Int × Int)} {v : Value} {n : Int} (a b z : Int) (h : Sim w0 W g c mp X L v n) (h0 : 0 ≤ n) (h1 : n < 1000) (hl : L.length ≤ 1000) :
    Calls Try.prog 24 #[.pointer (some ⟨g, 0, none⟩), .pointer (some ⟨c, 0, none⟩), .agg #[.int .i64 6, .int .i64 a, .int .i64 b, .int .i64 z]] W (DoPost w0 g c n L.length) := by
  have hlX := h.nm.length
  obtain ⟨r, hr⟩ : ∃ r, r = W.heap.size := ⟨_, rfl⟩
  obtain ⟨V, hV⟩ : ∃ V, V = W.alloc (.cells #[.int .i64 6, .int .i64 a, .int .i64 b, .int .i64 z] 37) := ⟨_, rfl⟩
  have hVC : Chg (fun _ => False) W V := by rw [hV]; exact (Chg.refl _ W).alloc _
  have hb : V.heap[r]? = some (.cells #[.int .i64 6, .int .i64 a, .int .i64 b, .int .i64 z] 37 (0, 0)) := by rw [hV, hr]; exact heap_alloc_at _ _
  have hrm : ¬ Mine g mp X r := fun hm => by have := h.ch.lt hm; omega
  have hrc : r ≠ c := by have := heap_lt h.rf.cell; omega
  have hrv : v.ownBlock ≠ some r := fun e => by have := h.rf.own.lt e; omega
  have hS := h.keep hVC
  obtain ⟨q0, q1, q2, q3⟩ := read4 hb
  have HV := Lib.hid hV
  have HR := Lib.hid hr
  clear h hV hr
  cases hk : findH X a with
  | none =>
    have hre := set_none z hS.ch hk
    have hrf := rfind_any a hS.rf (by omega)
    rw [nm_none hS.nm hk] at hrf
    have FIN := Lib.hid (show DoPost w0 g c n L.length (.returned (.bool true)) V from ⟨rfl, _, _, _, _, _, hS, by omega, by omega, by omega⟩)
    clear hS hb hVC hrm hrc hrv h0 h1 hl hlX hk
    go_enter Try.func24, Try.ntmps24
    go_upto_region 1 with (fail)
    rw [← HV.out, ← HR.out]

    go_wp2_with fail
    refine hrf.mono ?_
    rintro e w' ⟨rfl, rfl⟩
    go_wp2_with fail
    refine hre.mono ?_
    rintro e w' ⟨rfl, rfl⟩
    clear hre hrf
    go_wp2
    go_ret
    exact FIN.out
  | some x =>
    obtain ⟨A, B, LA, zx, LB, rfl, rfl, hnA, hnB, hxv, hxh, hfn, hAl⟩ := nm_some hS.nm hS.ch.hs hk
    have hrf := rfind_any a hS.rf (by omega)
    rw [hfn] at hrf
    obtain ⟨gv, cv, cur, hvv, hvo, hcb, hcv, hcs, hcc⟩ := hS.rf.own.at_ layM (0, 0) (by simp; omega)
    have hcell : V.cell? ⟨gv, LA.length * 2 + 1, none⟩ = some (.int .i64 zx) := by
      refine cell_of hcb _ ?_
      rw [hcc LA.length 1 (by simp; try omega) (by omega)]
      rw [show (LA ++ (a, zx) :: LB).getD LA.length (0, 0) = (a, zx) by simp [List.getD_eq_getElem?_getD]]
      rfl
    have hfv := frz hcb
    have hgc : gv ≠ c := fun e => hS.rf.vc (by rw [hvo, e])
    have hgm : ¬ Mine g mp (A ++ x :: B) gv := hS.av gv hvo
    have hgr : gv ≠ r := fun e => hrv (by rw [hvo, e])
    obtain ⟨V1, hV1⟩ : ∃ V1, V1 = V.setCell ⟨gv, LA.length * 2 + 1, none⟩ (.int .i64 z) := ⟨_, rfl⟩
    have hC1 : Chg (fun k => k = gv) V V1 := by rw [hV1]; exact chg1 (F := fun k => k = gv) (Chg.refl _ V) rfl _
    have ho1 : OwnF V1 49 2 fmem v (LA ++ (a, z) :: LB) := by
      have := OwnF.set (d := (0, 0)) (i := LA.length) (j := 1) layM hS.rf.own hvo (by simp; try omega) (by omega) (a, z) (.int .i64 z) (by rw [show (LA ++ (a, zx) :: LB).getD LA.length (0, 0) = (a, zx) by simp [List.getD_eq_getElem?_getD]]; rfl)
      rw [show (LA ++ (a, zx) :: LB).set LA.length (a, z) = LA ++ (a, z) :: LB by simp] at this
      rw [hV1]; exact this
    have hM1 : Mid w0 V1.drew g c mp (A ++ x :: B) n (LA ++ (a, z) :: LB) v n :=
      ⟨(hS.ch.keep hC1 (fun k hk e => hgm (e ▸ hk))).same (fun _ _ => rfl), RefW.drew ⟨(hC1.block c (heap_lt hS.rf.cell) (Ne.symm hgc)).trans hS.rf.cell, ho1, hS.rf.vc⟩, hS.ac, hS.av, hS.om, hS.oc, hS.ov, (hS.bl.trans (Below.of_chg hC1.drew hS.bl.size (fun k hk e => by have := hS.ov gv hvo; omega)))⟩
    have hre := set_some z zx hM1.ch hk hxv
    have hb1 : V1.heap[r]? = some (.cells #[.int .i64 6, .int .i64 a, .int .i64 b, .int .i64 z] 37 (0, 0)) := (hC1.block r (heap_lt hb) (Ne.symm hgr)).trans hb
    have hnm : Nm (A ++ ⟨x.b, x.h, .int .i64 z⟩ :: B) (LA ++ (a, z) :: LB) := by
      have := Nm.snoc hnA hnB x.b x.h z
      rwa [hxh] at this ⊢
    obtain ⟨x0, x1⟩ := hS.rf.cells
    rw [hvv] at x0
    have HM := Lib.hid hM1
    have HX := Lib.hid hnm
    have HB1 := Lib.hid hb1
    have HV1 := Lib.hid hV1
    obtain ⟨l0, hl0⟩ : ∃ l0, l0 = (LA ++ (a, zx) :: LB).length := ⟨_, rfl⟩
    have HL := Lib.hid (show (LA ++ (a, z) :: LB).length ≤ l0 + 1 by rw [hl0]; simp; try omega)
    obtain ⟨i, hi⟩ : ∃ i, i = LA.length := ⟨_, rfl⟩
    have him : (i : Int) < l0 := by rw [hl0, hi]; simp; try omega
    have hi0 : (0 : Int) ≤ i := by omega
    rw [← hl0] at x0 ⊢
    rw [← hi] at hcell hrf HV1
    clear hS hb hVC hrm hrc hrv h0 h1 hl hlX hk hnA hnB hxv hxh hfn hAl hvv hvo hcb hcv hcs hcc hi hl0 hV1 hC1 ho1 hM1 hb1 hnm hgc hgm hgr
    go_enter Try.func24, Try.ntmps24
    go_upto_region 1 with (fail)
    rw [← HV.out, ← HR.out]

    go_wp2_with fail
    refine hrf.mono ?_
    rintro e w' ⟨rfl, rfl⟩
    clear hrf
    go_wp2_with fail
    go_region
    rw [← HV1.out]
    clear q0 q1 q2 q3 x0 x1 hcell hfv
    obtain ⟨q0, q1, q2, q3⟩ := read4 HB1.out
    go_wp2_with fail
    refine hre.mono ?_
    rintro e W2 ⟨rfl, hp⟩
    obtain ⟨mp', hM2⟩ := HM.out.real hp
    have FIN := Lib.hid (show DoPost w0 g c n l0 (.returned (.bool true)) W2 from ⟨rfl, _, _, _, _, _, hM2.sim HX.out, by omega, by omega, HL.out⟩)
    clear hp hM2 hre q0 q1 q2 q3
    go_wp2
    go_ret
    exact FIN.out
end Go.Proofs.Ythoagpagnldmeaa
