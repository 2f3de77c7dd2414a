/- A call on both chains, on. -/
import Derived.Test.YthoagpagnldmeaaDo
set_option linter.unusedVariables false
set_option linter.unusedSimpArgs false
namespace Go.Proofs.Ythoagpagnldmeaa
open Go.RowKit Go.Ps
set_option maxRecDepth 20000 in
set_option maxHeartbeats 2000000 in
theorem do_3 {w0 W : World} {g c : Nat} {mp : Option Nat} {X : List Mem} {L : List (Int × Int)} {v : Value} {n : Int} (a b z : Int) (h : Sim w0 W g c mp X L v n) (h0 : 0 ≤ n) (h1 : n < 1000) (hl : L.length ≤ 1000) :
    Calls Try.prog 24 #[.pointer (some ⟨g, 0, none⟩), .pointer (some ⟨c, 0, none⟩), .agg #[.int .i64 3, .int .i64 a, .int .i64 b, .int .i64 z]] W (DoPost w0 g c n L.length) := by
  have hlX := h.nm.length
  obtain ⟨r, hr⟩ : ∃ r, r = W.heap.size := ⟨_, rfl⟩
  obtain ⟨V, hV⟩ : ∃ V, V = W.alloc (.cells #[.int .i64 3, .int .i64 a, .int .i64 b, .int .i64 z] 37) := ⟨_, rfl⟩
  have hVC : Chg (fun _ => False) W V := by rw [hV]; exact (Chg.refl _ W).alloc _
  have hb : V.heap[r]? = some (.cells #[.int .i64 3, .int .i64 a, .int .i64 b, .int .i64 z] 37 (0, 0)) := by rw [hV, hr]; exact heap_alloc_at _ _
  have hrm : ¬ Mine g mp X r := fun hm => by have := h.ch.lt hm; omega
  have hrc : r ≠ c := by have := heap_lt h.rf.cell; omega
  have hrv : v.ownBlock ≠ some r := fun e => by have := h.rf.own.lt e; omega
  have hS := h.keep hVC
  obtain ⟨q0, q1, q2, q3⟩ := read4 hb
  have HV := Lib.hid hV
  have HR := Lib.hid hr
  clear h hV hr
  cases hk : findH X a with
  | none =>
    have hre := ahead_none z hS.ch hk
    have hrf := rahead_none a z hS.rf (by omega) (nm_none hS.nm hk)
    have FIN := Lib.hid (show DoPost w0 g c n L.length (.returned (.bool true)) V from ⟨rfl, _, _, _, _, _, hS, by omega, by omega, by omega⟩)
    clear hS hb hVC hrm hrc hrv h0 h1 hl hlX hk
    go_enter Try.func24, Try.ntmps24
    go_upto_region 1 with (fail)
    rw [← HV.out, ← HR.out]
    go_wp2_with fail
    refine hre.mono ?_
    rintro e w' ⟨rfl, rfl⟩
    go_wp2_with fail
    refine hrf.mono ?_
    rintro e w' ⟨rfl, rfl⟩
    clear hre hrf
    go_wp2
    go_ret
    exact FIN.out
  | some x =>
    obtain ⟨A, B, LA, zx, LB, rfl, rfl, hnA, hnB, hxv, hxh, hfn, hAl⟩ := nm_some hS.nm hS.ch.hs hk
    have hre := ahead_some_any hk z hS.ch h0 (by omega)
    have HS := Lib.hid hS
    have HB := Lib.hid (⟨hb, hrm, hrc, h0, h1, hl, hnA, hnB, hxv, hxh, hfn⟩ : _ ∧ _ ∧ _ ∧ _ ∧ _ ∧ _ ∧ _ ∧ _ ∧ _ ∧ _ ∧ _)
    clear hS hb hVC hrm hrc hrv h0 h1 hl hlX hk hnA hnB hxv hxh hfn hAl
    go_enter Try.func24, Try.ntmps24
    go_upto_region 1 with (fail)
    rw [← HV.out, ← HR.out]
    go_wp2_with fail
    refine hre.mono ?_
    rintro e W1 ⟨b', rfl, hp⟩
    obtain ⟨hb, hrm, hrc, h0, h1, hl, hnA, hnB, hxv, hxh, hfn⟩ := HB.out
    obtain ⟨mp', hM⟩ := HS.out.mid.real hp
    have hb1 : W1.heap[r]? = some (.cells #[.int .i64 3, .int .i64 a, .int .i64 b, .int .i64 z] 37 (0, 0)) := by
      obtain ⟨mp'', _, hC, _⟩ := hp
      exact (hC.block r (heap_lt hb) hrm).trans hb
    have hrf := rahead_some a z LA.length hM.rf h0 (by omega) (by omega) hfn (by simp)
    rw [List.take_left, List.drop_left] at hrf
    have HM := Lib.hid hM
    have HX := Lib.hid (show Nm (A ++ ⟨b', n + 1, .int .i64 z⟩ :: x :: B) (LA ++ (n + 1, z) :: (a, zx) :: LB) from Nm.snoc hnA (by have := Nm.cons hnB hxv; rwa [hxh] at this) b' _ _)
    clear q0 q1 q2 q3
    obtain ⟨q0, q1, q2, q3⟩ := read4 hb1
    clear hb hrm hrc h0 h1 hl hnA hnB hxv hxh hfn hp hM hb1 hre
    go_wp2_with fail
    refine hrf.mono ?_
    rintro e W2 ⟨v', rfl, hR2, hC2, hf2⟩
    have hsim := HM.out.ref HX.out hR2 hC2 hf2
    have FIN := Lib.hid (show DoPost w0 g c n (LA ++ (a, zx) :: LB).length (.returned (.bool true)) W2 from ⟨rfl, _, _, _, _, _, hsim, by omega, by omega, by simp; try omega⟩)
    clear hrf hR2 hC2 hf2 hsim q0 q1 q2 q3
    go_wp2
    go_ret
    exact FIN.out
set_option maxRecDepth 20000 in
set_option maxHeartbeats 2000000 in
theorem do_4 {w0 W : World} {g c : Nat} {mp : Option Nat} {X : List Mem} {L : List (Int × Int)} {v : Value} {n : Int} (a b z : Int) (h : Sim w0 W g c mp X L v n) (h0 : 0 ≤ n) (h1 : n < 1000) (hl : L.length ≤ 1000) :
    Calls Try.prog 24 #[.pointer (some ⟨g, 0, none⟩), .pointer (some ⟨c, 0, none⟩), .agg #[.int .i64 4, .int .i64 a, .int .i64 b, .int .i64 z]] W (DoPost w0 g c n L.length) := by
  have hlX := h.nm.length
  obtain ⟨r, hr⟩ : ∃ r, r = W.heap.size := ⟨_, rfl⟩
  obtain ⟨V, hV⟩ : ∃ V, V = W.alloc (.cells #[.int .i64 4, .int .i64 a, .int .i64 b, .int .i64 z] 37) := ⟨_, rfl⟩
  have hVC : Chg (fun _ => False) W V := by rw [hV]; exact (Chg.refl _ W).alloc _
  have hb : V.heap[r]? = some (.cells #[.int .i64 4, .int .i64 a, .int .i64 b, .int .i64 z] 37 (0, 0)) := by rw [hV, hr]; exact heap_alloc_at _ _
  have hrm : ¬ Mine g mp X r := fun hm => by have := h.ch.lt hm; omega
  have hrc : r ≠ c := by have := heap_lt h.rf.cell; omega
  have hrv : v.ownBlock ≠ some r := fun e => by have := h.rf.own.lt e; omega
  have hS := h.keep hVC
  obtain ⟨q0, q1, q2, q3⟩ := read4 hb
  have HV := Lib.hid hV
  have HR := Lib.hid hr
  clear h hV hr
  cases hk : findH X a with
  | none =>
    have hre := remove_none hS.ch hk
    have hrf := rremove_none a hS.rf (by omega) (nm_none hS.nm hk)
    have FIN := Lib.hid (show DoPost w0 g c n L.length (.returned (.bool true)) V from ⟨rfl, _, _, _, _, _, hS, by omega, by omega, by omega⟩)
    clear hS hb hVC hrm hrc hrv h0 h1 hl hlX hk
    go_enter Try.func24, Try.ntmps24
    go_upto_region 1 with (fail)
    rw [← HV.out, ← HR.out]
    go_wp2_with fail
    refine hre.mono ?_
    rintro e w' ⟨rfl, rfl⟩
    go_wp2_with fail
    refine hrf.mono ?_
    rintro e w' ⟨rfl, rfl⟩
    clear hre hrf
    go_wp2
    go_ret
    exact FIN.out
  | some x =>
    obtain ⟨A, B, LA, zx, LB, rfl, rfl, hnA, hnB, hxv, hxh, hfn, hAl⟩ := nm_some hS.nm hS.ch.hs hk
    have hre := remove_some zx hS.ch hk hxv
    have HS := Lib.hid hS
    have HB := Lib.hid (⟨hb, hrm, hrc, h0, h1, hl, hnA, hnB, hxv, hxh, hfn⟩ : _ ∧ _ ∧ _ ∧ _ ∧ _ ∧ _ ∧ _ ∧ _ ∧ _ ∧ _ ∧ _)
    clear hS hb hVC hrm hrc hrv h0 h1 hl hlX hk hnA hnB hxv hxh hfn hAl
    go_enter Try.func24, Try.ntmps24
    go_upto_region 1 with (fail)
    rw [← HV.out, ← HR.out]
    go_wp2_with fail
    refine hre.mono ?_
    rintro e W1 ⟨rfl, hp⟩
    obtain ⟨hb, hrm, hrc, h0, h1, hl, hnA, hnB, hxv, hxh, hfn⟩ := HB.out
    obtain ⟨mp', hM⟩ := HS.out.mid.real hp
    have hb1 : W1.heap[r]? = some (.cells #[.int .i64 4, .int .i64 a, .int .i64 b, .int .i64 z] 37 (0, 0)) := by
      obtain ⟨mp'', _, hC, _⟩ := hp
      exact (hC.block r (heap_lt hb) hrm).trans hb
    have hrf := rremove_some a LA.length hM.rf (by omega) hfn (by simp)
    have e1 : (LA ++ (a, zx) :: LB).take LA.length ++ (LA ++ (a, zx) :: LB).drop (LA.length + 1) = LA ++ LB := by simp
    have e2 : (LA ++ (a, zx) :: LB).getD LA.length (0, 0) = (a, zx) := by simp [List.getD_eq_getElem?_getD]
    rw [e1, e2] at hrf
    have HM := Lib.hid hM
    have HX := Lib.hid (show Nm (A ++ B) (LA ++ LB) from Nm.append hnA hnB)
    clear q0 q1 q2 q3
    obtain ⟨q0, q1, q2, q3⟩ := read4 hb1
    clear hb hrm hrc h0 h1 hl hnA hnB hxv hxh hfn hp hM hb1 hre e1 e2
    go_wp2_with fail
    refine hrf.mono ?_
    rintro e W2 ⟨v', rfl, hR2, hC2, hf2⟩
    have hsim := HM.out.ref HX.out hR2 hC2 hf2
    have FIN := Lib.hid (show DoPost w0 g c n (LA ++ (a, zx) :: LB).length (.returned (.bool true)) W2 from ⟨rfl, _, _, _, _, _, hsim, by omega, by omega, by simp; omega⟩)
    clear hrf hR2 hC2 hf2 hsim q0 q1 q2 q3
    go_wp2
    go_ret
    exact FIN.out
set_option maxRecDepth 20000 in
set_option maxHeartbeats 2000000 in
theorem do_7 {w0 W : World} {g c : Nat} {mp : Option Nat} {X : List Mem} {L : List (Int × Int)} {v : Value} {n : Int} (kd a b z : Int) (h : Sim w0 W g c mp X L v n) (h0 : 0 ≤ n) (h1 : n < 1000) (hl : L.length ≤ 1000) (k1 : ¬ kd = 1) (k2 : ¬ kd = 2) (k3 : ¬ kd = 3) (k4 : ¬ kd = 4) (k5 : ¬ kd = 5) (k6 : ¬ kd = 6) :
    Calls Try.prog 24 #[.pointer (some ⟨g, 0, none⟩), .pointer (some ⟨c, 0, none⟩), .agg #[.int .i64 kd, .int .i64 a, .int .i64 b, .int .i64 z]] W (DoPost w0 g c n L.length) := by
  have hlX := h.nm.length
  obtain ⟨r, hr⟩ : ∃ r, r = W.heap.size := ⟨_, rfl⟩
  obtain ⟨V, hV⟩ : ∃ V, V = W.alloc (.cells #[.int .i64 kd, .int .i64 a, .int .i64 b, .int .i64 z] 37) := ⟨_, rfl⟩
  have hVC : Chg (fun _ => False) W V := by rw [hV]; exact (Chg.refl _ W).alloc _
  have hb : V.heap[r]? = some (.cells #[.int .i64 kd, .int .i64 a, .int .i64 b, .int .i64 z] 37 (0, 0)) := by rw [hV, hr]; exact heap_alloc_at _ _
  have hrm : ¬ Mine g mp X r := fun hm => by have := h.ch.lt hm; omega
  have hrc : r ≠ c := by have := heap_lt h.rf.cell; omega
  have hrv : v.ownBlock ≠ some r := fun e => by have := h.rf.own.lt e; omega
  have hS := h.keep hVC
  obtain ⟨q0, q1, q2, q3⟩ := read4 hb
  have HV := Lib.hid hV
  have HR := Lib.hid hr
  clear h hV hr
  have FIN := Lib.hid (show DoPost w0 g c n L.length (.returned (.bool true)) V from ⟨rfl, _, _, _, _, _, hS, by omega, by omega, by omega⟩)
  cases hk : findH X a with
  | none =>
    have hre := get_none hS.ch hk
    have hrf := rfind_any a hS.rf (by omega)
    rw [nm_none hS.nm hk] at hrf
    clear hS hb hVC hrm hrc hrv h0 h1 hl hlX hk
    go_enter Try.func24, Try.ntmps24
    go_upto_region 1 with (fail)
    rw [← HV.out, ← HR.out]
    go_wp2_with fail
    refine hre.mono ?_
    rintro e w' ⟨rfl, rfl⟩
    go_wp2_with fail
    refine hrf.mono ?_
    rintro e w' ⟨rfl, rfl⟩
    clear hre hrf
    go_wp2
    go_ret
    exact FIN.out
  | some x =>
    obtain ⟨A, B, LA, zx, LB, rfl, rfl, hnA, hnB, hxv, hxh, hfn, hAl⟩ := nm_some hS.nm hS.ch.hs hk
    have hre := get_some zx hS.ch hk hxv
    have hrf := rfind_any a hS.rf (by omega)
    rw [hfn] at hrf
    obtain ⟨gv, cv, cur, hvv, hvo, hcb, hcv, hcs, hcc⟩ := hS.rf.own.at_ layM (0, 0) (by simp; omega)
    have hcell : V.cell? ⟨gv, LA.length * 2 + 1, none⟩ = some (.int .i64 zx) := by
      refine cell_of hcb _ ?_
      rw [hcc LA.length 1 (by simp; try omega) (by omega)]
      rw [show (LA ++ (a, zx) :: LB).getD LA.length (0, 0) = (a, zx) by simp [List.getD_eq_getElem?_getD]]
      rfl
    obtain ⟨x0, x1⟩ := hS.rf.cells
    rw [hvv] at x0
    obtain ⟨i, hi⟩ : ∃ i, i = LA.length := ⟨_, rfl⟩
    obtain ⟨m, hm⟩ : ∃ m, m = (LA ++ (a, zx) :: LB).length := ⟨_, rfl⟩
    have him : (i : Int) < m := by rw [hm, hi]; simp; omega
    have hi0 : ¬ (i : Int) < 0 := by omega
    rw [← hm] at x0 FIN ⊢
    rw [← hi] at hcell hrf
    clear hS hb hVC hrm hrc hrv h0 h1 hl hlX hk hnA hnB hxv hxh hfn hAl hvv hvo hcb hcv hcs hcc hi hm
    go_enter Try.func24, Try.ntmps24
    go_upto_region 1 with (fail)
    rw [← HV.out, ← HR.out]
    go_wp2_with fail
    refine hre.mono ?_
    rintro e w' ⟨rfl, rfl⟩
    go_wp2_with fail
    refine hrf.mono ?_
    rintro e w' ⟨rfl, rfl⟩
    clear hre hrf
    go_wp2
    go_ret
    exact FIN.out
end Go.Proofs.Ythoagpagnldmeaa
