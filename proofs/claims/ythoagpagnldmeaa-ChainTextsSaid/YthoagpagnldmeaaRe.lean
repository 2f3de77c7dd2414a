/- The document's chain: Last, First, Ahead, Remove, Move. -/
import Derived.Test.YthoagpagnldmeaaRc
set_option linter.unusedVariables false
set_option linter.unusedSimpArgs false
namespace Go.Proofs.Ythoagpagnldmeaa
open Go.RowKit Go.Ps
theorem RefW.drew {W : World} {c : Nat} {v : Value} {L : List (Int × Int)} {nx : Int} (h : RefW W c v L nx) : RefW W.drew c v L nx := ⟨h.cell, h.own, h.vc⟩
theorem RefW.cells {W : World} {c : Nat} {v : Value} {L : List (Int × Int)} {nx : Int} (h : RefW W c v L nx) : W.cell? ⟨c, 0, none⟩ = some v ∧ W.cell? ⟨c, 1, none⟩ = some (.int .i64 nx) := read2 h.cell
def FrR (c : Nat) (v : Value) (L : List (Int × Int)) (nx : Int) (m : Int × Int) (w : World) (r : Value) (w' : World) : Prop := r = mv m ∧ RefW w' c v L nx ∧ Chg (fun k => k = c) w w'
set_option maxRecDepth 20000 in
set_option maxHeartbeats 1000000 in
theorem rlast_any {w : World} {c : Nat} {v : Value} {L : List (Int × Int)} {nx : Int} (z : Int) (h : RefW w c v L nx) (h0 : 0 ≤ nx) (h1 : nx < 1000000) (hl : L.length ≤ 10000) :
    Calls Try.prog 18 #[.pointer (some ⟨c, 0, none⟩), .int .i64 z] w (PutPost c (L ++ [(nx + 1, z)]) (nx + 1) w (.int .i64 (nx + 1))) := by
  obtain ⟨A, cp, hv, _⟩ := h.own.form
  obtain ⟨n, hn⟩ : ∃ n, n = L.length := ⟨_, rfl⟩
  rw [← hn] at hv
  subst hv
  have hd := h.drew
  have hfr := rfresh_any z hd h0 h1
  have x0 := hd.cells.1
  have HH := Lib.hid (⟨h, hl, hn⟩ : _ ∧ _ ∧ _)
  clear h h0 h1 hl hn
  go_enter Try.func18, Try.ntmps18
  go_wp2_with fail
  refine J.wp_region_seq (fun W => W.cell? ⟨c, 0, none⟩ = some (.slice A n cp)) [(0, 0), (1, 0), (2, 0), (3, 0), (4, 0), (5, 0), (6, 0), (7, 0), (8, 1), (9, 1)] (by kernel_rfl) (by kernel_rfl) (by kernel_rfl) x0 ?_
  iterate 8 (apply J.look (by rfl) (by rfl); (focus (intro W hW; go_simp; exact HasV.val rfl)); simp only [Act.put, List.setIfInBounds_toArray, List.set_cons_zero, List.set_cons_succ])
  refine J.link (FrR c (.slice A n cp) L (nx + 1) (nx + 1, z) w) (by rfl) (by rfl) ?_ (fun v W hR => hR.2.1.cells.1) ?_
  · go_simp
    refine J.HasR.call (hfr.mono ?_)
    rintro e W ⟨rfl, hR, hC⟩
    exact ⟨_, rfl, rfl, hR, ((Chg.refl _ w).drew).trans hC (fun _ _ h => h)⟩
  rintro v W ⟨rfl, hR, hC⟩
  simp only [Act.put, List.setIfInBounds_toArray, List.set_cons_zero, List.set_cons_succ]
  have hp := rput_any n (nx + 1, z) hR (by rw [HH.out.2.2]; exact Nat.le_refl _) (by have := HH.out.2.1; omega)
  rw [show L.take n ++ (nx + 1, z) :: L.drop n = L ++ [(nx + 1, z)] by rw [HH.out.2.2]; simp] at hp
  refine J.final (fun v W' => v = .tuple #[] ∧ PutPost c (L ++ [(nx + 1, z)]) (nx + 1) W (.tuple #[]) (.returned (.tuple #[])) W') (by rfl) (by rfl) (by kernel_rfl) ?_ ?_
  · go_simp
    refine J.HasR.call (hp.mono ?_)
    rintro e W2 hq
    obtain ⟨v', rfl, h2⟩ := hq
    exact ⟨_, rfl, rfl, v', rfl, h2⟩
  rintro v W2 ⟨rfl, v', _, hR2, hC2, hf⟩
  simp only [Act.put, List.setIfInBounds_toArray, List.set_cons_zero, List.set_cons_succ]
  refine J.fin ?_
  have FIN := Lib.hid (show PutPost c (L ++ [(nx + 1, z)]) (nx + 1) w (.int .i64 (nx + 1)) (.returned (.int .i64 (nx + 1))) W2 from ⟨v', rfl, hR2, hC.trans hC2 (fun _ _ h => h), fun k hk => Nat.le_trans hC.size (hf k hk)⟩)
  obtain ⟨y0, y1⟩ := hR2.cells
  clear hR hC hR2 hC2 hf hp hfr x0 hd
  go_wp2
  go_ret
  exact FIN.out
set_option maxRecDepth 20000 in
set_option maxHeartbeats 1000000 in
theorem rfirst_any {w : World} {c : Nat} {v : Value} {L : List (Int × Int)} {nx : Int} (z : Int) (h : RefW w c v L nx) (h0 : 0 ≤ nx) (h1 : nx < 1000000) (hl : L.length ≤ 10000) :
    Calls Try.prog 70 #[.pointer (some ⟨c, 0, none⟩), .int .i64 z] w (PutPost c ((nx + 1, z) :: L) (nx + 1) w (.int .i64 (nx + 1))) := by
  have hfr := rfresh_any z h h0 h1
  have HL := Lib.hid hl
  clear h h0 h1 hl
  go_enter Try.func70, Try.ntmps70
  go_wp2_with fail
  refine hfr.mono ?_
  rintro e w1 ⟨rfl, hR, hC⟩
  have hp := rput_any 0 (nx + 1, z) hR (Nat.zero_le _) (by have := HL.out; omega)
  simp only [List.take_zero, List.drop_zero, List.nil_append] at hp
  have HC := Lib.hid hC
  clear hR hC hfr
  go_wp2_with fail
  refine hp.mono ?_
  rintro e w2 ⟨v', rfl, hR2, hC2, hf⟩
  have FIN := Lib.hid (show PutPost c ((nx + 1, z) :: L) (nx + 1) w (.int .i64 (nx + 1)) (.returned (.int .i64 (nx + 1))) w2 from ⟨v', rfl, hR2, HC.out.trans hC2 (fun _ _ h => h), fun k hk => Nat.le_trans HC.out.size (hf k hk)⟩)
  obtain ⟨y0, y1⟩ := hR2.cells
  clear hR2 hC2 hf hp
  go_wp2
  go_ret
  exact FIN.out
set_option maxRecDepth 20000 in
theorem rahead_none {w : World} {c : Nat} {v : Value} {L : List (Int × Int)} {nx : Int} (k z : Int) (h : RefW w c v L nx) (hl : L.length ≤ 10000) (hf : fndI L k 0 = -1) :
    Calls Try.prog 71 #[.pointer (some ⟨c, 0, none⟩), .int .i64 k, .int .i64 z] w fun e w' => e = .returned (.tuple #[.int .i64 0, .int .i64 5]) ∧ w' = w := by
  have hfi := rfind_any k h (by omega)
  rw [hf] at hfi
  clear h hl hf
  go_enter Try.func71, Try.ntmps71
  go_wp2_with fail
  refine hfi.mono ?_
  rintro e w1 ⟨rfl, rfl⟩
  go_wp2
  go_ret2
  exact ⟨rfl, rfl⟩
set_option maxRecDepth 20000 in
set_option maxHeartbeats 1000000 in
theorem rahead_some {w : World} {c : Nat} {v : Value} {L : List (Int × Int)} {nx : Int} (k z : Int) (i : Nat) (h : RefW w c v L nx) (h0 : 0 ≤ nx) (h1 : nx < 1000000) (hl : L.length ≤ 10000) (hf : fndI L k 0 = i) (hi : i ≤ L.length) :
    Calls Try.prog 71 #[.pointer (some ⟨c, 0, none⟩), .int .i64 k, .int .i64 z] w (PutPost c (L.take i ++ (nx + 1, z) :: L.drop i) (nx + 1) w (.tuple #[.int .i64 (nx + 1), .int .i64 0])) := by
  have hfi := rfind_any k h (by omega)
  rw [hf] at hfi
  have hfr := rfresh_any z h h0 h1
  have hi0 : ¬ (i : Int) < 0 := by omega
  have HL := Lib.hid (⟨hl, hi⟩ : _ ∧ _)
  clear h h0 h1 hl hf hi
  go_enter Try.func71, Try.ntmps71
  go_wp2_with fail
  refine hfi.mono ?_
  rintro e w1 ⟨rfl, rfl⟩
  go_wp2_with fail
  refine hfr.mono ?_
  rintro e w1 ⟨rfl, hR, hC⟩
  have hp := rput_any i (nx + 1, z) hR HL.out.2 (by have := HL.out.1; omega)
  have HC := Lib.hid hC
  clear hR hC hfr hfi
  go_wp2_with fail
  refine hp.mono ?_
  rintro e w2 ⟨v', rfl, hR2, hC2, hf⟩
  have FIN := Lib.hid (show PutPost c (L.take i ++ (nx + 1, z) :: L.drop i) (nx + 1) _ (.tuple #[.int .i64 (nx + 1), .int .i64 0]) (.returned (.tuple #[.int .i64 (nx + 1), .int .i64 0])) w2 from ⟨v', rfl, hR2, HC.out.trans hC2 (fun _ _ h => h), fun k hk => Nat.le_trans HC.out.size (hf k hk)⟩)
  obtain ⟨y0, y1⟩ := hR2.cells
  clear hR2 hC2 hf hp
  go_wp2
  go_ret2
  exact FIN.out
set_option maxRecDepth 20000 in
theorem rremove_none {w : World} {c : Nat} {v : Value} {L : List (Int × Int)} {nx : Int} (k : Int) (h : RefW w c v L nx) (hl : L.length ≤ 10000) (hf : fndI L k 0 = -1) :
    Calls Try.prog 20 #[.pointer (some ⟨c, 0, none⟩), .int .i64 k] w fun e w' => e = .returned (.tuple #[.int .i64 0, .bool false]) ∧ w' = w := by
  have hfi := rfind_any k h (by omega)
  rw [hf] at hfi
  clear h hl hf
  go_enter Try.func20, Try.ntmps20
  go_wp2_with fail
  refine hfi.mono ?_
  rintro e w1 ⟨rfl, rfl⟩
  go_wp2
  go_ret2
  exact ⟨rfl, rfl⟩
theorem field49 (a b : Int) (w : World) : (Instr.field 49 (.agg #[.int .i64 a, .int .i64 b]) 1).run Try.prog w = .ok (.int .i64 b) w := by kernel_rfl
set_option maxRecDepth 20000 in
theorem rremove_some {w : World} {c : Nat} {v : Value} {L : List (Int × Int)} {nx : Int} (k : Int) (i : Nat) (h : RefW w c v L nx) (hl : L.length ≤ 10000) (hf : fndI L k 0 = i) (hi : i < L.length) :
    Calls Try.prog 20 #[.pointer (some ⟨c, 0, none⟩), .int .i64 k] w (PutPost c (L.take i ++ L.drop (i + 1)) nx w (.tuple #[.int .i64 (L.getD i (0, 0)).2, .bool true])) := by
  have hfi := rfind_any k h (by omega)
  rw [hf] at hfi
  have hcu := rcut_any i h hi (by omega)
  have hi0 : ¬ (i : Int) < 0 := by omega
  clear h hl hf hi
  unfold mv at hcu
  obtain ⟨m, hm⟩ : ∃ m, m = L.getD i (0, 0) := ⟨_, rfl⟩
  rw [← hm] at hcu ⊢
  clear hm
  go_enter Try.func20, Try.ntmps20
  go_wp2_with fail
  refine hfi.mono ?_
  rintro e w1 ⟨rfl, rfl⟩
  go_wp2_with fail
  refine hcu.mono ?_
  rintro e w2 ⟨v', rfl, hq⟩
  have HQ := Lib.hid hq
  clear hq hcu hfi
  have hfl := field49
  go_wp2
  go_ret2
  exact ⟨v', rfl, HQ.out⟩
set_option maxRecDepth 20000 in
theorem rmove_none {w : World} {c : Nat} {v : Value} {L : List (Int × Int)} {nx : Int} (k j : Int) (h : RefW w c v L nx) (hl : L.length ≤ 10000) (hf : fndI L k 0 = -1 ∨ (∃ i : Nat, fndI L k 0 = i) ∧ fndI L j 0 = -1) :
    Calls Try.prog 22 #[.pointer (some ⟨c, 0, none⟩), .int .i64 k, .int .i64 j] w fun e w' => e = .returned (.int .i64 5) ∧ w' = w := by
  have hfi := rfind_any k h (by omega)
  have hfj := rfind_any j h (by omega)
  clear h hl
  rcases hf with hf | ⟨⟨i, hf⟩, hj⟩
  · rw [hf] at hfi
    clear hf
    go_enter Try.func22, Try.ntmps22
    go_wp2_with fail
    refine hfi.mono ?_
    rintro e w1 ⟨rfl, rfl⟩
    go_wp2
    go_ret
    exact ⟨rfl, rfl⟩
  · rw [hf] at hfi
    rw [hj] at hfj
    have hi0 : ¬ (i : Int) < 0 := by omega
    clear hf hj
    go_enter Try.func22, Try.ntmps22
    go_wp2_with fail
    refine hfi.mono ?_
    rintro e w1 ⟨rfl, rfl⟩
    go_wp2_with fail
    refine hfj.mono ?_
    rintro e w1 ⟨rfl, rfl⟩
    go_wp2
    go_ret
    exact ⟨rfl, rfl⟩
set_option maxRecDepth 20000 in
theorem rmove_same {w : World} {c : Nat} {v : Value} {L : List (Int × Int)} {nx : Int} (k : Int) (i : Nat) (h : RefW w c v L nx) (hl : L.length ≤ 10000) (hf : fndI L k 0 = i) :
    Calls Try.prog 22 #[.pointer (some ⟨c, 0, none⟩), .int .i64 k, .int .i64 k] w fun e w' => e = .returned (.int .i64 1) ∧ w' = w := by
  have hfi := rfind_any k h (by omega)
  rw [hf] at hfi
  have hi0 : ¬ (i : Int) < 0 := by omega
  clear h hl hf
  go_enter Try.func22, Try.ntmps22
  go_wp2_with fail
  refine hfi.mono ?_
  rintro e w1 ⟨rfl, rfl⟩
  go_wp2_with fail
  refine hfi.mono ?_
  rintro e w1 ⟨rfl, rfl⟩
  go_wp2
  go_ret
  exact ⟨rfl, rfl⟩
set_option maxRecDepth 20000 in
set_option maxHeartbeats 2000000 in
theorem rmove_some {w : World} {c : Nat} {v : Value} {L : List (Int × Int)} {nx : Int} (k j : Int) (i i1 i2 : Nat) (h : RefW w c v L nx) (hl : L.length ≤ 10000) (hf : fndI L k 0 = i) (hj : fndI L j 0 = i1) (hi : i < L.length) (hkj : k ≠ j)
    (hf2 : fndI (L.take i ++ L.drop (i + 1)) j 0 = i2) (hi2 : i2 ≤ (L.take i ++ L.drop (i + 1)).length) :
    Calls Try.prog 22 #[.pointer (some ⟨c, 0, none⟩), .int .i64 k, .int .i64 j] w (PutPost c ((L.take i ++ L.drop (i + 1)).take i2 ++ L.getD i (0, 0) :: (L.take i ++ L.drop (i + 1)).drop i2) nx w (.int .i64 0)) := by
  have hfi := rfind_any k h (by omega)
  rw [hf] at hfi
  have hfj := rfind_any j h (by omega)
  rw [hj] at hfj
  have hcu := rcut_any i h hi (by omega)
  have hi0 : ¬ (i : Int) < 0 := by omega
  have hj0 : ¬ (i1 : Int) < 0 := by omega
  obtain ⟨m, hm⟩ : ∃ m, m = L.getD i (0, 0) := ⟨_, rfl⟩
  obtain ⟨L1, hL1⟩ : ∃ L1, L1 = L.take i ++ L.drop (i + 1) := ⟨_, rfl⟩
  rw [← hm] at hcu ⊢
  rw [← hL1] at hcu hf2 hi2 ⊢
  have hl1 : L1.length ≤ 10000 := by rw [hL1, List.length_append, List.length_take, List.length_drop]; omega
  have HH := Lib.hid (⟨hf2, hi2, hl1⟩ : _ ∧ _ ∧ _)
  clear hf hj h hl hi hm hL1 hf2 hi2 hl1
  unfold mv at hcu
  go_enter Try.func22, Try.ntmps22
  go_wp2_with fail
  refine hfi.mono ?_
  rintro e w1 ⟨rfl, rfl⟩
  go_wp2_with fail
  refine hfj.mono ?_
  rintro e w1 ⟨rfl, rfl⟩
  go_wp2_with fail
  refine hfi.mono ?_
  rintro e w1 ⟨rfl, rfl⟩
  go_wp2_with fail
  refine hcu.mono ?_
  rintro e w2 ⟨v', rfl, hR, hC, hf⟩
  have hb := heap_alloc_at w2 (.cells #[.int .i64 m.1, .int .i64 m.2] 49)
  obtain ⟨r, hr⟩ : ∃ r, r = w2.heap.size := ⟨_, rfl⟩
  obtain ⟨V, hV⟩ : ∃ V, V = w2.alloc (.cells #[.int .i64 m.1, .int .i64 m.2] 49) := ⟨_, rfl⟩
  rw [← hr, ← hV] at hb
  have hVC : Chg (fun _ => False) w2 V := by rw [hV]; exact (Chg.refl _ w2).alloc _
  have hRV := (hR.chg hVC id (fun _ _ => id)).drew
  have hfd := rfind_any j hRV (by have := HH.out.2.2; omega)
  rw [HH.out.1] at hfd
  have hpu := rput_any i2 m hRV HH.out.2.1 (by have := HH.out.2.2; omega)
  have HC := Lib.hid (⟨hC, hf, hVC⟩ : _ ∧ _ ∧ _)
  have HV := Lib.hid hV
  have HR := Lib.hid hr
  clear hC hf hVC hV hr hRV hR hfi hfj hcu
  go_wp2_with fail
  rw [← HV.out, ← HR.out]
  refine J.wp_region_seq (fun W => W.cell? ⟨r, 0, none⟩ = some (.int .i64 m.1) ∧ W.cell? ⟨r, 1, none⟩ = some (.int .i64 m.2)) [(0, 0), (1, 0), (2, 0), (4, 0), (3, 1), (5, 1)] (by kernel_rfl) (by kernel_rfl) (by kernel_rfl) (read2 hb) ?_
  iterate 3 (apply J.look (by rfl) (by rfl); (focus (intro W hW; go_simp; exact HasV.val rfl)); simp only [Act.put, List.setIfInBounds_toArray, List.set_cons_zero, List.set_cons_succ])
  apply J.look (by rfl) (by rfl); (focus (intro W hW; obtain ⟨hW0, hW1⟩ := hW; go_simp; exact HasV.val rfl)); simp only [Act.put, List.setIfInBounds_toArray, List.set_cons_zero, List.set_cons_succ]
  refine J.link (fun v W => v = .int .i64 i2 ∧ W = V.drew) (by rfl) (by rfl) ?_ (fun v W hR => by rw [hR.2]; exact read2 hb) ?_
  · go_simp
    refine J.HasR.call (hfd.mono ?_)
    rintro e W ⟨rfl, rfl⟩
    exact ⟨_, rfl, rfl, rfl⟩
  rintro v W ⟨rfl, rfl⟩
  simp only [Act.put, List.setIfInBounds_toArray, List.set_cons_zero, List.set_cons_succ]
  unfold mv at hpu
  refine J.final (fun v W' => v = .tuple #[] ∧ PutPost c (L1.take i2 ++ m :: L1.drop i2) nx V.drew (.tuple #[]) (.returned (.tuple #[])) W') (by rfl) (by rfl) (by kernel_rfl) ?_ ?_
  · go_simp
    refine J.HasR.call (hpu.mono ?_)
    rintro e W2 hq
    obtain ⟨v', rfl, h2⟩ := hq
    exact ⟨_, rfl, rfl, v', rfl, h2⟩
  rintro v W2 ⟨rfl, v2, _, hR2, hC2, hf2⟩
  simp only [Act.put, List.setIfInBounds_toArray, List.set_cons_zero, List.set_cons_succ]
  refine J.fin ?_
  obtain ⟨hC, hf, hVC⟩ := HC.out
  have hCd : Chg (fun k => k = c) w1 V.drew := (hC.trans hVC (fun _ _ h => h.elim)).drew
  have FIN := Lib.hid (show PutPost c (L1.take i2 ++ m :: L1.drop i2) nx w1 (.int .i64 0) (.returned (.int .i64 0)) W2 from ⟨v2, rfl, hR2, hCd.trans hC2 (fun _ _ h => h), fun k hk => Nat.le_trans hCd.size (hf2 k hk)⟩)
  clear hC hf hVC hCd hR2 hC2 hf2 hb hfd hpu
  go_wp2
  go_ret
  exact FIN.out
end Go.Proofs.Ythoagpagnldmeaa
