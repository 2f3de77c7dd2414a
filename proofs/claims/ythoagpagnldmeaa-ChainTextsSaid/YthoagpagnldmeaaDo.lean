/- A call on both chains. -/
import Derived.Test.YthoagpagnldmeaaSi
set_option linter.unusedVariables false
set_option linter.unusedSimpArgs false
namespace Go.Proofs.Ythoagpagnldmeaa
open Go.RowKit Go.Ps
def DoPost (w0 : World) (g c : Nat) (n : Int) (l : Nat) (e : Ending) (w' : World) : Prop :=
  e = .returned (.bool true) ∧ ∃ mp X L v n', Sim w0 w' g c mp X L v n' ∧ n ≤ n' ∧ n' ≤ n + 1 ∧ L.length ≤ l + 1
theorem Sim.drew {w0 W : World} {g c : Nat} {mp : Option Nat} {X : List Mem} {L : List (Int × Int)} {v : Value} {n : Int} (h : Sim w0 W g c mp X L v n) : Sim w0 W.drew g c mp X L v n := h.keep ((Chg.refl _ W).drew)
set_option maxRecDepth 20000 in
set_option maxHeartbeats 2000000 in
theorem do_1 {w0 W : World} {g c : Nat} {mp : Option Nat} {X : List Mem} {L : List (Int × Int)} {v : Value} {n : Int} (a b z : Int) (h : Sim w0 W g c mp X L v n) (h0 : 0 ≤ n) (h1 : n < 1000) (hl : L.length ≤ 1000) :
    Calls Try.prog 24 #[.pointer (some ⟨g, 0, none⟩), .pointer (some ⟨c, 0, none⟩), .agg #[.int .i64 1, .int .i64 a, .int .i64 b, .int .i64 z]] W (DoPost w0 g c n L.length) := by
  have hlX := h.nm.length
  obtain ⟨r, hr⟩ : ∃ r, r = W.heap.size := ⟨_, rfl⟩
  obtain ⟨V, hV⟩ : ∃ V, V = W.alloc (.cells #[.int .i64 1, .int .i64 a, .int .i64 b, .int .i64 z] 37) := ⟨_, rfl⟩
  have hVC : Chg (fun _ => False) W V := by rw [hV]; exact (Chg.refl _ W).alloc _
  have hb : V.heap[r]? = some (.cells #[.int .i64 1, .int .i64 a, .int .i64 b, .int .i64 z] 37 (0, 0)) := by rw [hV, hr]; exact heap_alloc_at _ _
  have hrm : ¬ Mine g mp X r := fun hm => by have := h.ch.lt hm; omega
  have hrc : r ≠ c := by have := heap_lt h.rf.cell; omega
  have hrv : v.ownBlock ≠ some r := fun e => by have := h.rf.own.lt e; omega
  have hS := h.keep hVC
  obtain ⟨q0, q1, q2, q3⟩ := read4 hb
  have HV := Lib.hid hV
  have HR := Lib.hid hr
  clear h hV hr
  have hSd := hS.drew
  have hre := last_any z hSd.ch h0 (by omega)
  have HS := Lib.hid hSd
  have HB := Lib.hid (⟨hb, hrm, hrc, h0, h1, hl, hlX⟩ : _ ∧ _ ∧ _ ∧ _ ∧ _ ∧ _ ∧ _)
  clear hS hSd hb hVC hrm hrc hrv h0 h1 hl hlX
  go_enter Try.func24, Try.ntmps24
  go_upto_region 1 with (fail)
  rw [← HV.out, ← HR.out]
  go_wp2_with fail
  refine J.wp_region_seq (fun W => W.cell? ⟨r, 3, none⟩ = some (.int .i64 z)) [(0, 0), (1, 0), (2, 0), (4, 0), (5, 0), (6, 0), (3, 1), (7, 1), (8, 0), (9, 0)] (by kernel_rfl) (by kernel_rfl) (by kernel_rfl) q3 ?_
  iterate 6 (apply J.look (by rfl) (by rfl); (focus (intro W hW; go_simp; exact HasV.val rfl)); simp only [Act.put, List.setIfInBounds_toArray, List.set_cons_zero, List.set_cons_succ])
  refine J.link (fun u W => u = .int .i64 (n + 1) ∧ ∃ b', ChPost 95 54 undef g mp X (X ++ ⟨b', n + 1, .int .i64 z⟩ :: []) (n + 1) V.drew W) (by rfl) (by rfl) ?_ (fun u W hR => ?_) ?_
  · go_simp
    refine J.HasR.call (hre.mono ?_)
    rintro e W2 ⟨b', rfl, hp⟩
    exact ⟨_, rfl, rfl, b', hp⟩
  · obtain ⟨_, b', mp', _, hC, _⟩ := hR
    exact chg_cell hC q3 HB.out.2.1
  rintro u W1 ⟨rfl, b', hp⟩
  simp only [Act.put, List.setIfInBounds_toArray, List.set_cons_zero, List.set_cons_succ]
  obtain ⟨mp', hM⟩ := HS.out.mid.real hp
  have hbW1 : W1.cell? ⟨r, 3, none⟩ = some (.int .i64 z) := by
    obtain ⟨mp'', _, hC, _⟩ := hp
    exact chg_cell hC q3 HB.out.2.1
  have hrf := rlast_any z hM.rf HB.out.2.2.2.1 (by have := HB.out.2.2.2.2.1; omega) (by have := HB.out.2.2.2.2.2.1; omega)
  refine J.link (fun u W2 => u = .int .i64 (n + 1) ∧ PutPost c (L ++ [(n + 1, z)]) (n + 1) W1 (.int .i64 (n + 1)) (.returned (.int .i64 (n + 1))) W2) (by rfl) (by rfl) ?_ (fun u W2 hR => ?_) ?_
  · go_simp
    refine J.HasR.call (hrf.mono ?_)
    rintro e W2 hq
    obtain ⟨v', rfl, hq2⟩ := hq
    exact ⟨_, rfl, rfl, v', rfl, hq2⟩
  · obtain ⟨_, v', _, _, hC, _⟩ := hR
    exact chg_cell hC hbW1 HB.out.2.2.1
  rintro u W2 ⟨rfl, v', _, hR2, hC2, hf2⟩
  simp only [Act.put, List.setIfInBounds_toArray, List.set_cons_zero, List.set_cons_succ]
  have hsim := hM.ref (Nm.snoc HS.out.nm (show Nm [] [] from rfl) b' _ _) hR2 hC2 hf2
  have FIN := Lib.hid (show DoPost w0 g c n L.length (.returned (.bool true)) W2 from ⟨rfl, _, _, _, _, _, hsim, by omega, by omega, by simp⟩)
  clear hp hM hbW1 hrf hR2 hC2 hf2 hsim hre
  iterate 2 (apply J.look (by rfl) (by rfl); (focus (intro W hW; go_simp; exact HasV.val rfl)); simp only [Act.put, List.setIfInBounds_toArray, List.set_cons_zero, List.set_cons_succ])
  refine J.fin ?_
  go_wp2
  go_ret
  exact FIN.out
set_option maxRecDepth 20000 in
set_option maxHeartbeats 2000000 in
theorem do_2 {w0 W : World} {g c : Nat} {mp : Option Nat} {X : List Mem} {L : List (Int × Int)} {v : Value} {n : Int} (a b z : Int) (h : Sim w0 W g c mp X L v n) (h0 : 0 ≤ n) (h1 : n < 1000) (hl : L.length ≤ 1000) :
    Calls Try.prog 24 #[.pointer (some ⟨g, 0, none⟩), .pointer (some ⟨c, 0, none⟩), .agg #[.int .i64 2, .int .i64 a, .int .i64 b, .int .i64 z]] W (DoPost w0 g c n L.length) := by
  have hlX := h.nm.length
  obtain ⟨r, hr⟩ : ∃ r, r = W.heap.size := ⟨_, rfl⟩
  obtain ⟨V, hV⟩ : ∃ V, V = W.alloc (.cells #[.int .i64 2, .int .i64 a, .int .i64 b, .int .i64 z] 37) := ⟨_, rfl⟩
  have hVC : Chg (fun _ => False) W V := by rw [hV]; exact (Chg.refl _ W).alloc _
  have hb : V.heap[r]? = some (.cells #[.int .i64 2, .int .i64 a, .int .i64 b, .int .i64 z] 37 (0, 0)) := by rw [hV, hr]; exact heap_alloc_at _ _
  have hrm : ¬ Mine g mp X r := fun hm => by have := h.ch.lt hm; omega
  have hrc : r ≠ c := by have := heap_lt h.rf.cell; omega
  have hrv : v.ownBlock ≠ some r := fun e => by have := h.rf.own.lt e; omega
  have hS := h.keep hVC
  obtain ⟨q0, q1, q2, q3⟩ := read4 hb
  have HV := Lib.hid hV
  have HR := Lib.hid hr
  clear h hV hr
  have hSd := hS.drew
  have hre := first_any z hSd.ch h0 (by omega)
  have HS := Lib.hid hSd
  have HB := Lib.hid (⟨hb, hrm, hrc, h0, h1, hl, hlX⟩ : _ ∧ _ ∧ _ ∧ _ ∧ _ ∧ _ ∧ _)
  clear hS hSd hb hVC hrm hrc hrv h0 h1 hl hlX
  go_enter Try.func24, Try.ntmps24
  go_upto_region 1 with (fail)
  rw [← HV.out, ← HR.out]
  go_wp2_with fail
  refine J.wp_region_seq (fun W => W.cell? ⟨r, 3, none⟩ = some (.int .i64 z)) [(0, 0), (1, 0), (2, 0), (4, 0), (5, 0), (6, 0), (3, 1), (7, 1), (8, 0), (9, 0)] (by kernel_rfl) (by kernel_rfl) (by kernel_rfl) q3 ?_
  iterate 6 (apply J.look (by rfl) (by rfl); (focus (intro W hW; go_simp; exact HasV.val rfl)); simp only [Act.put, List.setIfInBounds_toArray, List.set_cons_zero, List.set_cons_succ])
  refine J.link (fun u W => u = .int .i64 (n + 1) ∧ ∃ b', ChPost 95 54 undef g mp X ([] ++ ⟨b', n + 1, .int .i64 z⟩ :: X) (n + 1) V.drew W) (by rfl) (by rfl) ?_ (fun u W hR => ?_) ?_
  · go_simp
    refine J.HasR.call (hre.mono ?_)
    rintro e W2 ⟨b', rfl, hp⟩
    exact ⟨_, rfl, rfl, b', hp⟩
  · obtain ⟨_, b', mp', _, hC, _⟩ := hR
    exact chg_cell hC q3 HB.out.2.1
  rintro u W1 ⟨rfl, b', hp⟩
  simp only [Act.put, List.setIfInBounds_toArray, List.set_cons_zero, List.set_cons_succ]
  obtain ⟨mp', hM⟩ := HS.out.mid.real hp
  have hbW1 : W1.cell? ⟨r, 3, none⟩ = some (.int .i64 z) := by
    obtain ⟨mp'', _, hC, _⟩ := hp
    exact chg_cell hC q3 HB.out.2.1
  have hrf := rfirst_any z hM.rf HB.out.2.2.2.1 (by have := HB.out.2.2.2.2.1; omega) (by have := HB.out.2.2.2.2.2.1; omega)
  refine J.link (fun u W2 => u = .int .i64 (n + 1) ∧ PutPost c ((n + 1, z) :: L) (n + 1) W1 (.int .i64 (n + 1)) (.returned (.int .i64 (n + 1))) W2) (by rfl) (by rfl) ?_ (fun u W2 hR => ?_) ?_
  · go_simp
    refine J.HasR.call (hrf.mono ?_)
    rintro e W2 hq
    obtain ⟨v', rfl, hq2⟩ := hq
    exact ⟨_, rfl, rfl, v', rfl, hq2⟩
  · obtain ⟨_, v', _, _, hC, _⟩ := hR
    exact chg_cell hC hbW1 HB.out.2.2.1
  rintro u W2 ⟨rfl, v', _, hR2, hC2, hf2⟩
  simp only [Act.put, List.setIfInBounds_toArray, List.set_cons_zero, List.set_cons_succ]
  have hsim := hM.ref (Nm.snoc (A := []) (LA := []) rfl HS.out.nm b' _ _) hR2 hC2 hf2
  have FIN := Lib.hid (show DoPost w0 g c n L.length (.returned (.bool true)) W2 from ⟨rfl, _, _, _, _, _, hsim, by omega, by omega, by simp⟩)
  clear hp hM hbW1 hrf hR2 hC2 hf2 hsim hre
  iterate 2 (apply J.look (by rfl) (by rfl); (focus (intro W hW; go_simp; exact HasV.val rfl)); simp only [Act.put, List.setIfInBounds_toArray, List.set_cons_zero, List.set_cons_succ])
  refine J.fin ?_
  go_wp2
  go_ret
  exact FIN.out
end Go.Proofs.Ythoagpagnldmeaa
