/- A call on both ledgers. -/
import Derived.Test.YtpndkelbchjkiaaLr9
import Derived.Test.YtpndkelbchjkiaaLk6
set_option linter.unusedVariables false
set_option linter.unusedSimpArgs false
namespace Go.Proofs.Ytpndkelbchjkiaa
open Go.RowKit Go.Ps
/-- Both ledgers, the law's own: of s1 the program's, of s2 the document's; a block of the call's besides. -/
def Mid (w0 : World) (g : Nat) (V : Value) (g2 : Nat) (V2 : Value) (q : Nat) (o : Obj) (s1 s2 : S) (W : World) : Prop :=
  ∃ L L2, LS 64 34 38 S.hd W g V L s1 ∧ LS 79 82 94 S.hd2 W g2 V2 L2 s2 ∧ (∀ k, Mine g V L k → ¬ Mine g2 V2 L2 k) ∧ Chg (fun _ => False) w0 W ∧ (∀ k, Mine g V L k ∨ Mine g2 V2 L2 k → w0.heap.size ≤ k) ∧ W.heap[q]? = some o ∧ ¬ Mine g V L q ∧ ¬ Mine g2 V2 L2 q
theorem Mid.l {w0 W : World} {g g2 q : Nat} {V V2 : Value} {o : Obj} {s1 s2 s3 : S} {f : FuncId} {args : Array Value} {r : Value} (h : Mid w0 g V g2 V2 q o s1 s2 W)
    (hc : ∀ L, LS 64 34 38 S.hd W g V L s1 → Calls Try.prog f args W fun e w' => e = .returned r ∧ Stp 64 34 38 S.hd W w' g V L s3) : Calls Try.prog f args W fun e w' => e = .returned r ∧ Mid w0 g V g2 V2 q o s3 s2 w' := by
  obtain ⟨L, L2, h1, h2, h3, h4, h5, h6, h7, h8⟩ := h
  refine (hc L h1).mono ?_
  rintro e w' ⟨rfl, L', k1, k2, k3, k4⟩
  refine ⟨rfl, L', L2, k1, ⟨h2.at_.chg k3 (fun k hk e => h3 k e hk), h2.acc⟩, fun k hk hk2 => ?_, h4.trans k3 (fun k hk e => by have := h5 k (.inl e); omega), fun k hk => ?_, (k3.block q (heap_lt h6) h7).trans h6, fun e => ?_, h8⟩
  · rcases k4 k hk with e | e
    · exact h3 k e hk2
    · have := h2.at_.mine_lt hk2; omega
  · rcases hk with e | e
    · rcases k4 k e with e | e
      · exact h5 k (.inl e)
      · exact Nat.le_trans h4.size e
    · exact h5 k (.inr e)
  · rcases k4 q e with e | e
    · exact h7 e
    · have := heap_lt h6; omega
theorem Mid.r {w0 W : World} {g g2 q : Nat} {V V2 : Value} {o : Obj} {s1 s2 s3 : S} {f : FuncId} {args : Array Value} {r : Value} (h : Mid w0 g V g2 V2 q o s1 s2 W)
    (hc : ∀ L, LS 79 82 94 S.hd2 W g2 V2 L s2 → Calls Try.prog f args W fun e w' => e = .returned r ∧ Stp 79 82 94 S.hd2 W w' g2 V2 L s3) : Calls Try.prog f args W fun e w' => e = .returned r ∧ Mid w0 g V g2 V2 q o s1 s3 w' := by
  obtain ⟨L, L2, h1, h2, h3, h4, h5, h6, h7, h8⟩ := h
  refine (hc L2 h2).mono ?_
  rintro e w' ⟨rfl, L', k1, k2, k3, k4⟩
  refine ⟨rfl, L, L', ⟨h1.at_.chg k3 (fun k hk e => h3 k hk e), h1.acc⟩, k1, fun k hk hk2 => ?_, h4.trans k3 (fun k hk e => by have := h5 k (.inr e); omega), fun k hk => ?_, (k3.block q (heap_lt h6) h8).trans h6, h7, fun e => ?_⟩
  · rcases k4 k hk2 with e | e
    · exact h3 k hk e
    · have := h1.at_.mine_lt hk; omega
  · rcases hk with e | e
    · exact h5 k (.inl e)
    · rcases k4 k e with e | e
      · exact h5 k (.inr e)
      · exact Nat.le_trans h4.size e
  · rcases k4 q e with e | e
    · exact h8 e
    · have := heap_lt h6; omega
def Two (w0 : World) (g : Nat) (V : Value) (g2 : Nat) (V2 : Value) (n : Nat) (W : World) : Prop :=
  ∃ s L L2, LS 64 34 38 S.hd W g V L s ∧ LS 79 82 94 S.hd2 W g2 V2 L2 s ∧ (∀ k, Mine g V L k → ¬ Mine g2 V2 L2 k) ∧ Chg (fun _ => False) w0 W ∧ (∀ k, Mine g V L k ∨ Mine g2 V2 L2 k → w0.heap.size ≤ k) ∧ s.Inv ∧ s.acc.length = n
theorem Two.keep {w0 W W' : World} {g g2 n : Nat} {V V2 : Value} (h : Two w0 g V g2 V2 n W) (hC : Chg (fun _ => False) W W') : Two w0 g V g2 V2 n W' := by
  obtain ⟨s, L, L2, h1, h2, h3, h4, h5, h6, h7⟩ := h
  exact ⟨s, L, L2, h1.keep hC, h2.keep hC, h3, h4.trans hC (fun _ _ h => h), h5, h6, h7⟩
theorem Mid.two {w0 W : World} {g g2 q n : Nat} {V V2 : Value} {o : Obj} {s : S} (h : Mid w0 g V g2 V2 q o s s W) (hI : s.Inv) (hn : s.acc.length = n) : Two w0 g V g2 V2 n W := by
  obtain ⟨L, L2, h1, h2, h3, h4, h5, h6, h7, h8⟩ := h
  exact ⟨s, L, L2, h1, h2, h3, h4, h5, hI, hn⟩
/-- The call's box behind both. -/
theorem Two.mid {w0 W : World} {g g2 n : Nat} {V V2 : Value} (h : Two w0 g V g2 V2 n W) (o : Obj) : ∃ s, Mid w0 g V g2 V2 W.heap.size o s s (W.alloc o) ∧ s.Inv ∧ s.acc.length = n := by
  obtain ⟨s, L, L2, h1, h2, h3, h4, h5, h6, h7⟩ := h
  have hC : Chg (fun _ => False) W (W.alloc o) := (Chg.refl _ _).alloc _
  exact ⟨s, ⟨L, L2, h1.keep hC, h2.keep hC, h3, h4.trans hC (fun _ _ h => h), h5, heap_alloc_at _ _, fun e => by have := h1.at_.mine_lt e; omega, fun e => by have := h2.at_.mine_lt e; omega⟩, h6, h7⟩
theorem Mid.cells {w0 W : World} {g g2 q : Nat} {V V2 : Value} {s1 s2 : S} {kd a b x : Int} (h : Mid w0 g V g2 V2 q (.cells #[.int .i64 kd, .int .i64 a, .int .i64 b, .int .u64 x] 53 (0, 0)) s1 s2 W) : W.cell? ⟨q, 0, none⟩ = some (.int .i64 kd) ∧ W.cell? ⟨q, 1, none⟩ = some (.int .i64 a) ∧ W.cell? ⟨q, 2, none⟩ = some (.int .i64 b) ∧ W.cell? ⟨q, 3, none⟩ = some (.int .u64 x) := by
  obtain ⟨_, _, _, _, _, _, _, h6, _⟩ := h
  exact read4 h6
theorem Mid.drew {w0 W : World} {g g2 q : Nat} {V V2 : Value} {o : Obj} {s1 s2 : S} (h : Mid w0 g V g2 V2 q o s1 s2 W) : Mid w0 g V g2 V2 q o s1 s2 W.drew := by
  obtain ⟨L, L2, h1, h2, h3, h4, h5, h6, h7, h8⟩ := h
  exact ⟨L, L2, h1.keep ((Chg.refl _ _).drew), h2.keep ((Chg.refl _ _).drew), h3, h4.drew, h5, h6, h7, h8⟩
set_option maxRecDepth 20000 in
set_option maxHeartbeats 4000000 in
theorem do_1 {w0 W : World} {g g2 n : Nat} {V V2 : Value} (h : Two w0 g V g2 V2 n W) (hn : n ≤ 1000) (a b x : Int) (hx : U64 x) :
    Calls Try.prog 18 #[.pointer (some ⟨g, 0, none⟩), .pointer (some ⟨g2, 0, none⟩), .agg #[.int .i64 1, .int .i64 a, .int .i64 b, .int .u64 x]] W fun e w' => e = .returned (.bool true) ∧ Two w0 g V g2 V2 n w' := by
  obtain ⟨s, hM, hI, hs⟩ := h.mid (.cells #[.int .i64 1, .int .i64 a, .int .i64 b, .int .u64 x] 53 (0, 0))
  obtain ⟨W1, hW1⟩ : ∃ W1, W1 = W.alloc (.cells #[.int .i64 1, .int .i64 a, .int .i64 b, .int .u64 x] 53) := ⟨_, rfl⟩
  obtain ⟨q, hq⟩ : ∃ q, q = W.heap.size := ⟨_, rfl⟩
  rw [← hW1, ← hq] at hM
  have HW := Lib.hid (⟨hW1, hq⟩ : _ ∧ _)
  have HM := Lib.hid hM
  obtain ⟨x0, x1, x2, x3⟩ := hM.cells
  obtain ⟨T, hT⟩ : ∃ T, T = s.transfer a b x := ⟨_, rfl⟩
  have hl : ∀ W', Mid w0 g V g2 V2 q (.cells #[.int .i64 1, .int .i64 a, .int .i64 b, .int .u64 x] 53 (0, 0)) s s W' → Calls Try.prog 21 #[.pointer (some ⟨g, 0, none⟩), .int .i64 a, .int .i64 b, .int .u64 x] W' fun e w' => e = .returned (.int .i64 T.2) ∧ Mid w0 g V g2 V2 q (.cells #[.int .i64 1, .int .i64 a, .int .i64 b, .int .u64 x] 53 (0, 0)) T.1 s w' := fun W' hM => hM.l (fun L h => by rw [hT]; exact transfer_any h hI.U a b x hx)
  have hr : ∀ W', Mid w0 g V g2 V2 q (.cells #[.int .i64 1, .int .i64 a, .int .i64 b, .int .u64 x] 53 (0, 0)) T.1 s W' → Calls Try.prog 42 #[.pointer (some ⟨g2, 0, none⟩), .int .i64 a, .int .i64 b, .int .u64 x] W' fun e w' => e = .returned (.int .i64 T.2) ∧ Mid w0 g V g2 V2 q (.cells #[.int .i64 1, .int .i64 a, .int .i64 b, .int .u64 x] 53 (0, 0)) T.1 T.1 w' := fun W' hM => hM.r (fun L h => by rw [hT]; exact rtransfer_any h hI.U a b x hx)
  have HT : Hid (T.1.Inv ∧ T.1.acc.length = n) := Lib.hid (by
    rw [hT]
    have := transfer_inv hI a b x hx.1
    exact ⟨this.1, this.2.2.trans hs⟩)
  have HL := Lib.hid hl
  have HR := Lib.hid hr
  obtain ⟨T1, r⟩ := T
  simp only at HL HR HT
  clear h hM hI hs hx hT hl hr hW1 hq
  go_enter Try.func18, Try.ntmps18
  go_upto_region 1 with (fail)
  rw [← HW.out.1, ← HW.out.2]
  go_wp2_with fail
  refine J.wp_region_seq (fun W => W.cell? ⟨q, 0, none⟩ = some (.int .i64 1) ∧ W.cell? ⟨q, 1, none⟩ = some (.int .i64 a) ∧ W.cell? ⟨q, 2, none⟩ = some (.int .i64 b) ∧ W.cell? ⟨q, 3, none⟩ = some (.int .u64 x)) [(0, 0), (1, 0), (2, 0), (3, 0), (4, 0), (5, 0), (6, 0), (8, 0), (9, 0), (10, 0), (11, 0), (12, 0), (13, 0), (14, 0), (7, 1), (15, 1), (16, 0), (17, 0)] (by kernel_rfl) (by kernel_rfl) (by kernel_rfl) ⟨x0, x1, x2, x3⟩ ?_
  iterate 14 (apply J.look (by rfl) (by rfl); (focus (intro W hW; obtain ⟨hW0, hW1, hW2, hW3⟩ := hW; go_simp; exact HasV.val rfl)); simp only [Act.put, List.setIfInBounds_toArray, List.set_cons_zero, List.set_cons_succ])
  refine J.link (fun u W => u = .int .i64 r ∧ Mid w0 g V g2 V2 q (.cells #[.int .i64 1, .int .i64 a, .int .i64 b, .int .u64 x] 53 (0, 0)) T1 s W) (by rfl) (by rfl) ?_ (fun u W hR => hR.2.cells) ?_
  · have hc := HL.out _ HM.out.drew
    go_simp
    refine J.HasR.call (hc.mono ?_)
    rintro e W ⟨rfl, hM⟩
    exact ⟨_, rfl, rfl, hM⟩
  rintro u W2 ⟨rfl, hM2⟩
  simp only [Act.put, List.setIfInBounds_toArray, List.set_cons_zero, List.set_cons_succ]
  refine J.link (fun u W => u = .int .i64 r ∧ Mid w0 g V g2 V2 q (.cells #[.int .i64 1, .int .i64 a, .int .i64 b, .int .u64 x] 53 (0, 0)) T1 T1 W) (by rfl) (by rfl) ?_ (fun u W hR => hR.2.cells) ?_
  · have hc := HR.out _ hM2
    go_simp
    refine J.HasR.call (hc.mono ?_)
    rintro e W ⟨rfl, hM⟩
    exact ⟨_, rfl, rfl, hM⟩
  rintro u W3 ⟨rfl, hM3⟩
  simp only [Act.put, List.setIfInBounds_toArray, List.set_cons_zero, List.set_cons_succ]
  iterate 2 (apply J.look (by rfl) (by rfl); (focus (intro W hW; go_simp; exact HasV.val rfl)); simp only [Act.put, List.setIfInBounds_toArray, List.set_cons_zero, List.set_cons_succ])
  refine J.fin ?_
  have hfin := Lib.hid (hM3.two HT.out.1 HT.out.2)
  clear hM2 hM3
  go_wp2
  go_ret
  exact ⟨rfl, hfin.out⟩
set_option maxRecDepth 20000 in
set_option maxHeartbeats 4000000 in
theorem do_2 {w0 W : World} {g g2 n : Nat} {V V2 : Value} (h : Two w0 g V g2 V2 n W) (hn : n ≤ 1000) (a b x : Int) (hx : U64 x) :
    Calls Try.prog 18 #[.pointer (some ⟨g, 0, none⟩), .pointer (some ⟨g2, 0, none⟩), .agg #[.int .i64 2, .int .i64 a, .int .i64 b, .int .u64 x]] W fun e w' => e = .returned (.bool true) ∧ Two w0 g V g2 V2 n w' := by
  obtain ⟨s, hM, hI, hs⟩ := h.mid (.cells #[.int .i64 2, .int .i64 a, .int .i64 b, .int .u64 x] 53 (0, 0))
  obtain ⟨W1, hW1⟩ : ∃ W1, W1 = W.alloc (.cells #[.int .i64 2, .int .i64 a, .int .i64 b, .int .u64 x] 53) := ⟨_, rfl⟩
  obtain ⟨q, hq⟩ : ∃ q, q = W.heap.size := ⟨_, rfl⟩
  rw [← hW1, ← hq] at hM
  have HW := Lib.hid (⟨hW1, hq⟩ : _ ∧ _)
  have HM := Lib.hid hM
  obtain ⟨x0, x1, x2, x3⟩ := hM.cells
  obtain ⟨T, hT⟩ : ∃ T, T = s.bond a x := ⟨_, rfl⟩
  have hl : ∀ W', Mid w0 g V g2 V2 q (.cells #[.int .i64 2, .int .i64 a, .int .i64 b, .int .u64 x] 53 (0, 0)) s s W' → Calls Try.prog 10 #[.pointer (some ⟨g, 0, none⟩), .int .i64 a, .int .u64 x] W' fun e w' => e = .returned (.int .i64 T.2) ∧ Mid w0 g V g2 V2 q (.cells #[.int .i64 2, .int .i64 a, .int .i64 b, .int .u64 x] 53 (0, 0)) T.1 s w' := fun W' hM => hM.l (fun L h => by rw [hT]; exact bond_any h hI.U a x hx)
  have hr : ∀ W', Mid w0 g V g2 V2 q (.cells #[.int .i64 2, .int .i64 a, .int .i64 b, .int .u64 x] 53 (0, 0)) T.1 s W' → Calls Try.prog 43 #[.pointer (some ⟨g2, 0, none⟩), .int .i64 a, .int .u64 x] W' fun e w' => e = .returned (.int .i64 T.2) ∧ Mid w0 g V g2 V2 q (.cells #[.int .i64 2, .int .i64 a, .int .i64 b, .int .u64 x] 53 (0, 0)) T.1 T.1 w' := fun W' hM => hM.r (fun L h => by rw [hT]; exact rbond_any h hI.U a x hx)
  have HT : Hid (T.1.Inv ∧ T.1.acc.length = n) := Lib.hid (by
    rw [hT]
    have := bond_inv hI a x hx.1
    exact ⟨this.1, this.2.2.trans hs⟩)
  have HL := Lib.hid hl
  have HR := Lib.hid hr
  obtain ⟨T1, r⟩ := T
  simp only at HL HR HT
  clear h hM hI hs hx hT hl hr hW1 hq
  go_enter Try.func18, Try.ntmps18
  go_upto_region 1 with (fail)
  rw [← HW.out.1, ← HW.out.2]
  go_wp2_with fail
  refine J.wp_region_seq (fun W => W.cell? ⟨q, 0, none⟩ = some (.int .i64 2) ∧ W.cell? ⟨q, 1, none⟩ = some (.int .i64 a) ∧ W.cell? ⟨q, 2, none⟩ = some (.int .i64 b) ∧ W.cell? ⟨q, 3, none⟩ = some (.int .u64 x)) [(0, 0), (1, 0), (2, 0), (3, 0), (4, 0), (6, 0), (7, 0), (8, 0), (9, 0), (10, 0), (5, 1), (11, 1), (12, 0), (13, 0)] (by kernel_rfl) (by kernel_rfl) (by kernel_rfl) ⟨x0, x1, x2, x3⟩ ?_
  iterate 10 (apply J.look (by rfl) (by rfl); (focus (intro W hW; obtain ⟨hW0, hW1, hW2, hW3⟩ := hW; go_simp; exact HasV.val rfl)); simp only [Act.put, List.setIfInBounds_toArray, List.set_cons_zero, List.set_cons_succ])
  refine J.link (fun u W => u = .int .i64 r ∧ Mid w0 g V g2 V2 q (.cells #[.int .i64 2, .int .i64 a, .int .i64 b, .int .u64 x] 53 (0, 0)) T1 s W) (by rfl) (by rfl) ?_ (fun u W hR => hR.2.cells) ?_
  · have hc := HL.out _ HM.out.drew
    go_simp
    refine J.HasR.call (hc.mono ?_)
    rintro e W ⟨rfl, hM⟩
    exact ⟨_, rfl, rfl, hM⟩
  rintro u W2 ⟨rfl, hM2⟩
  simp only [Act.put, List.setIfInBounds_toArray, List.set_cons_zero, List.set_cons_succ]
  refine J.link (fun u W => u = .int .i64 r ∧ Mid w0 g V g2 V2 q (.cells #[.int .i64 2, .int .i64 a, .int .i64 b, .int .u64 x] 53 (0, 0)) T1 T1 W) (by rfl) (by rfl) ?_ (fun u W hR => hR.2.cells) ?_
  · have hc := HR.out _ hM2
    go_simp
    refine J.HasR.call (hc.mono ?_)
    rintro e W ⟨rfl, hM⟩
    exact ⟨_, rfl, rfl, hM⟩
  rintro u W3 ⟨rfl, hM3⟩
  simp only [Act.put, List.setIfInBounds_toArray, List.set_cons_zero, List.set_cons_succ]
  iterate 2 (apply J.look (by rfl) (by rfl); (focus (intro W hW; go_simp; exact HasV.val rfl)); simp only [Act.put, List.setIfInBounds_toArray, List.set_cons_zero, List.set_cons_succ])
  refine J.fin ?_
  have hfin := Lib.hid (hM3.two HT.out.1 HT.out.2)
  clear hM2 hM3
  go_wp2
  go_ret
  exact ⟨rfl, hfin.out⟩
set_option maxRecDepth 20000 in
set_option maxHeartbeats 4000000 in
theorem do_3 {w0 W : World} {g g2 n : Nat} {V V2 : Value} (h : Two w0 g V g2 V2 n W) (hn : n ≤ 1000) (a b x : Int) (hx : U64 x) :
    Calls Try.prog 18 #[.pointer (some ⟨g, 0, none⟩), .pointer (some ⟨g2, 0, none⟩), .agg #[.int .i64 3, .int .i64 a, .int .i64 b, .int .u64 x]] W fun e w' => e = .returned (.bool true) ∧ Two w0 g V g2 V2 n w' := by
  obtain ⟨s, hM, hI, hs⟩ := h.mid (.cells #[.int .i64 3, .int .i64 a, .int .i64 b, .int .u64 x] 53 (0, 0))
  obtain ⟨W1, hW1⟩ : ∃ W1, W1 = W.alloc (.cells #[.int .i64 3, .int .i64 a, .int .i64 b, .int .u64 x] 53) := ⟨_, rfl⟩
  obtain ⟨q, hq⟩ : ∃ q, q = W.heap.size := ⟨_, rfl⟩
  rw [← hW1, ← hq] at hM
  have HW := Lib.hid (⟨hW1, hq⟩ : _ ∧ _)
  have HM := Lib.hid hM
  obtain ⟨x0, x1, x2, x3⟩ := hM.cells
  obtain ⟨T, hT⟩ : ∃ T, T = s.unbond a x b := ⟨_, rfl⟩
  have hl : ∀ W', Mid w0 g V g2 V2 q (.cells #[.int .i64 3, .int .i64 a, .int .i64 b, .int .u64 x] 53 (0, 0)) s s W' → Calls Try.prog 11 #[.pointer (some ⟨g, 0, none⟩), .int .i64 a, .int .u64 x, .int .i64 b] W' fun e w' => e = .returned (.int .i64 T.2) ∧ Mid w0 g V g2 V2 q (.cells #[.int .i64 3, .int .i64 a, .int .i64 b, .int .u64 x] 53 (0, 0)) T.1 s w' := fun W' hM => hM.l (fun L h => by rw [hT]; exact unbond_any h hI.U a x b hx (by have := hI.few a; omega) (hI.srt a))
  have hr : ∀ W', Mid w0 g V g2 V2 q (.cells #[.int .i64 3, .int .i64 a, .int .i64 b, .int .u64 x] 53 (0, 0)) T.1 s W' → Calls Try.prog 44 #[.pointer (some ⟨g2, 0, none⟩), .int .i64 a, .int .u64 x, .int .i64 b] W' fun e w' => e = .returned (.int .i64 T.2) ∧ Mid w0 g V g2 V2 q (.cells #[.int .i64 3, .int .i64 a, .int .i64 b, .int .u64 x] 53 (0, 0)) T.1 T.1 w' := fun W' hM => hM.r (fun L h => by rw [hT]; exact runbond_any h hI.U a x b hx (by have := hI.few a; omega))
  have HT : Hid (T.1.Inv ∧ T.1.acc.length = n) := Lib.hid (by
    rw [hT]
    have := unbond_inv hI a x b hx.1
    exact ⟨this.1, this.2.2.trans hs⟩)
  have HL := Lib.hid hl
  have HR := Lib.hid hr
  obtain ⟨T1, r⟩ := T
  simp only at HL HR HT
  clear h hM hI hs hx hT hl hr hW1 hq
  go_enter Try.func18, Try.ntmps18
  go_upto_region 1 with (fail)
  rw [← HW.out.1, ← HW.out.2]
  go_wp2_with fail
  refine J.wp_region_seq (fun W => W.cell? ⟨q, 0, none⟩ = some (.int .i64 3) ∧ W.cell? ⟨q, 1, none⟩ = some (.int .i64 a) ∧ W.cell? ⟨q, 2, none⟩ = some (.int .i64 b) ∧ W.cell? ⟨q, 3, none⟩ = some (.int .u64 x)) [(0, 0), (1, 0), (2, 0), (3, 0), (4, 0), (5, 0), (6, 0), (8, 0), (9, 0), (10, 0), (11, 0), (12, 0), (13, 0), (14, 0), (7, 1), (15, 1), (16, 0), (17, 0)] (by kernel_rfl) (by kernel_rfl) (by kernel_rfl) ⟨x0, x1, x2, x3⟩ ?_
  iterate 14 (apply J.look (by rfl) (by rfl); (focus (intro W hW; obtain ⟨hW0, hW1, hW2, hW3⟩ := hW; go_simp; exact HasV.val rfl)); simp only [Act.put, List.setIfInBounds_toArray, List.set_cons_zero, List.set_cons_succ])
  refine J.link (fun u W => u = .int .i64 r ∧ Mid w0 g V g2 V2 q (.cells #[.int .i64 3, .int .i64 a, .int .i64 b, .int .u64 x] 53 (0, 0)) T1 s W) (by rfl) (by rfl) ?_ (fun u W hR => hR.2.cells) ?_
  · have hc := HL.out _ HM.out.drew
    go_simp
    refine J.HasR.call (hc.mono ?_)
    rintro e W ⟨rfl, hM⟩
    exact ⟨_, rfl, rfl, hM⟩
  rintro u W2 ⟨rfl, hM2⟩
  simp only [Act.put, List.setIfInBounds_toArray, List.set_cons_zero, List.set_cons_succ]
  refine J.link (fun u W => u = .int .i64 r ∧ Mid w0 g V g2 V2 q (.cells #[.int .i64 3, .int .i64 a, .int .i64 b, .int .u64 x] 53 (0, 0)) T1 T1 W) (by rfl) (by rfl) ?_ (fun u W hR => hR.2.cells) ?_
  · have hc := HR.out _ hM2
    go_simp
    refine J.HasR.call (hc.mono ?_)
    rintro e W ⟨rfl, hM⟩
    exact ⟨_, rfl, rfl, hM⟩
  rintro u W3 ⟨rfl, hM3⟩
  simp only [Act.put, List.setIfInBounds_toArray, List.set_cons_zero, List.set_cons_succ]
  iterate 2 (apply J.look (by rfl) (by rfl); (focus (intro W hW; go_simp; exact HasV.val rfl)); simp only [Act.put, List.setIfInBounds_toArray, List.set_cons_zero, List.set_cons_succ])
  refine J.fin ?_
  have hfin := Lib.hid (hM3.two HT.out.1 HT.out.2)
  clear hM2 hM3
  go_wp2
  go_ret
  exact ⟨rfl, hfin.out⟩
set_option maxRecDepth 20000 in
set_option maxHeartbeats 4000000 in
theorem do_5 {w0 W : World} {g g2 n : Nat} {V V2 : Value} (h : Two w0 g V g2 V2 n W) (hn : n ≤ 1000) (a b x : Int) (hx : U64 x) :
    Calls Try.prog 18 #[.pointer (some ⟨g, 0, none⟩), .pointer (some ⟨g2, 0, none⟩), .agg #[.int .i64 5, .int .i64 a, .int .i64 b, .int .u64 x]] W fun e w' => e = .returned (.bool true) ∧ Two w0 g V g2 V2 n w' := by
  obtain ⟨s, hM, hI, hs⟩ := h.mid (.cells #[.int .i64 5, .int .i64 a, .int .i64 b, .int .u64 x] 53 (0, 0))
  obtain ⟨W1, hW1⟩ : ∃ W1, W1 = W.alloc (.cells #[.int .i64 5, .int .i64 a, .int .i64 b, .int .u64 x] 53) := ⟨_, rfl⟩
  obtain ⟨q, hq⟩ : ∃ q, q = W.heap.size := ⟨_, rfl⟩
  rw [← hW1, ← hq] at hM
  have HW := Lib.hid (⟨hW1, hq⟩ : _ ∧ _)
  have HM := Lib.hid hM
  obtain ⟨x0, x1, x2, x3⟩ := hM.cells
  obtain ⟨T, hT⟩ : ∃ T, T = s.deposit a x := ⟨_, rfl⟩
  have hl : ∀ W', Mid w0 g V g2 V2 q (.cells #[.int .i64 5, .int .i64 a, .int .i64 b, .int .u64 x] 53 (0, 0)) s s W' → Calls Try.prog 22 #[.pointer (some ⟨g, 0, none⟩), .int .i64 a, .int .u64 x] W' fun e w' => e = .returned (.int .i64 T.2) ∧ Mid w0 g V g2 V2 q (.cells #[.int .i64 5, .int .i64 a, .int .i64 b, .int .u64 x] 53 (0, 0)) T.1 s w' := fun W' hM => hM.l (fun L h => by rw [hT]; exact deposit_any h hI.U a x hx)
  have hr : ∀ W', Mid w0 g V g2 V2 q (.cells #[.int .i64 5, .int .i64 a, .int .i64 b, .int .u64 x] 53 (0, 0)) T.1 s W' → Calls Try.prog 46 #[.pointer (some ⟨g2, 0, none⟩), .int .i64 a, .int .u64 x] W' fun e w' => e = .returned (.int .i64 T.2) ∧ Mid w0 g V g2 V2 q (.cells #[.int .i64 5, .int .i64 a, .int .i64 b, .int .u64 x] 53 (0, 0)) T.1 T.1 w' := fun W' hM => hM.r (fun L h => by rw [hT]; exact rdeposit_any h hI.U a x hx)
  have HT : Hid (T.1.Inv ∧ T.1.acc.length = n) := Lib.hid (by
    rw [hT]
    have := deposit_inv hI a x hx.1
    exact ⟨this.1, this.2.2.trans hs⟩)
  have HL := Lib.hid hl
  have HR := Lib.hid hr
  obtain ⟨T1, r⟩ := T
  simp only at HL HR HT
  clear h hM hI hs hx hT hl hr hW1 hq
  go_enter Try.func18, Try.ntmps18
  go_upto_region 1 with (fail)
  rw [← HW.out.1, ← HW.out.2]
  go_wp2_with fail
  refine J.wp_region_seq (fun W => W.cell? ⟨q, 0, none⟩ = some (.int .i64 5) ∧ W.cell? ⟨q, 1, none⟩ = some (.int .i64 a) ∧ W.cell? ⟨q, 2, none⟩ = some (.int .i64 b) ∧ W.cell? ⟨q, 3, none⟩ = some (.int .u64 x)) [(0, 0), (1, 0), (2, 0), (3, 0), (4, 0), (6, 0), (7, 0), (8, 0), (9, 0), (10, 0), (5, 1), (11, 1), (12, 0), (13, 0)] (by kernel_rfl) (by kernel_rfl) (by kernel_rfl) ⟨x0, x1, x2, x3⟩ ?_
  iterate 10 (apply J.look (by rfl) (by rfl); (focus (intro W hW; obtain ⟨hW0, hW1, hW2, hW3⟩ := hW; go_simp; exact HasV.val rfl)); simp only [Act.put, List.setIfInBounds_toArray, List.set_cons_zero, List.set_cons_succ])
  refine J.link (fun u W => u = .int .i64 r ∧ Mid w0 g V g2 V2 q (.cells #[.int .i64 5, .int .i64 a, .int .i64 b, .int .u64 x] 53 (0, 0)) T1 s W) (by rfl) (by rfl) ?_ (fun u W hR => hR.2.cells) ?_
  · have hc := HL.out _ HM.out.drew
    go_simp
    refine J.HasR.call (hc.mono ?_)
    rintro e W ⟨rfl, hM⟩
    exact ⟨_, rfl, rfl, hM⟩
  rintro u W2 ⟨rfl, hM2⟩
  simp only [Act.put, List.setIfInBounds_toArray, List.set_cons_zero, List.set_cons_succ]
  refine J.link (fun u W => u = .int .i64 r ∧ Mid w0 g V g2 V2 q (.cells #[.int .i64 5, .int .i64 a, .int .i64 b, .int .u64 x] 53 (0, 0)) T1 T1 W) (by rfl) (by rfl) ?_ (fun u W hR => hR.2.cells) ?_
  · have hc := HR.out _ hM2
    go_simp
    refine J.HasR.call (hc.mono ?_)
    rintro e W ⟨rfl, hM⟩
    exact ⟨_, rfl, rfl, hM⟩
  rintro u W3 ⟨rfl, hM3⟩
  simp only [Act.put, List.setIfInBounds_toArray, List.set_cons_zero, List.set_cons_succ]
  iterate 2 (apply J.look (by rfl) (by rfl); (focus (intro W hW; go_simp; exact HasV.val rfl)); simp only [Act.put, List.setIfInBounds_toArray, List.set_cons_zero, List.set_cons_succ])
  refine J.fin ?_
  have hfin := Lib.hid (hM3.two HT.out.1 HT.out.2)
  clear hM2 hM3
  go_wp2
  go_ret
  exact ⟨rfl, hfin.out⟩
set_option maxRecDepth 20000 in
set_option maxHeartbeats 4000000 in
theorem do_6 {w0 W : World} {g g2 n : Nat} {V V2 : Value} (h : Two w0 g V g2 V2 n W) (hn : n ≤ 1000) (a b x : Int) (hx : U64 x) :
    Calls Try.prog 18 #[.pointer (some ⟨g, 0, none⟩), .pointer (some ⟨g2, 0, none⟩), .agg #[.int .i64 6, .int .i64 a, .int .i64 b, .int .u64 x]] W fun e w' => e = .returned (.bool true) ∧ Two w0 g V g2 V2 n w' := by
  obtain ⟨s, hM, hI, hs⟩ := h.mid (.cells #[.int .i64 6, .int .i64 a, .int .i64 b, .int .u64 x] 53 (0, 0))
  obtain ⟨W1, hW1⟩ : ∃ W1, W1 = W.alloc (.cells #[.int .i64 6, .int .i64 a, .int .i64 b, .int .u64 x] 53) := ⟨_, rfl⟩
  obtain ⟨q, hq⟩ : ∃ q, q = W.heap.size := ⟨_, rfl⟩
  rw [← hW1, ← hq] at hM
  have HW := Lib.hid (⟨hW1, hq⟩ : _ ∧ _)
  have HM := Lib.hid hM
  obtain ⟨x0, x1, x2, x3⟩ := hM.cells
  obtain ⟨T, hT⟩ : ∃ T, T = s.release a x := ⟨_, rfl⟩
  have hl : ∀ W', Mid w0 g V g2 V2 q (.cells #[.int .i64 6, .int .i64 a, .int .i64 b, .int .u64 x] 53 (0, 0)) s s W' → Calls Try.prog 23 #[.pointer (some ⟨g, 0, none⟩), .int .i64 a, .int .u64 x] W' fun e w' => e = .returned (.int .i64 T.2) ∧ Mid w0 g V g2 V2 q (.cells #[.int .i64 6, .int .i64 a, .int .i64 b, .int .u64 x] 53 (0, 0)) T.1 s w' := fun W' hM => hM.l (fun L h => by rw [hT]; exact release_any h hI.U a x hx)
  have hr : ∀ W', Mid w0 g V g2 V2 q (.cells #[.int .i64 6, .int .i64 a, .int .i64 b, .int .u64 x] 53 (0, 0)) T.1 s W' → Calls Try.prog 47 #[.pointer (some ⟨g2, 0, none⟩), .int .i64 a, .int .u64 x] W' fun e w' => e = .returned (.int .i64 T.2) ∧ Mid w0 g V g2 V2 q (.cells #[.int .i64 6, .int .i64 a, .int .i64 b, .int .u64 x] 53 (0, 0)) T.1 T.1 w' := fun W' hM => hM.r (fun L h => by rw [hT]; exact rrelease_any h hI.U a x hx)
  have HT : Hid (T.1.Inv ∧ T.1.acc.length = n) := Lib.hid (by
    rw [hT]
    have := release_inv hI a x hx.1
    exact ⟨this.1, this.2.2.trans hs⟩)
  have HL := Lib.hid hl
  have HR := Lib.hid hr
  obtain ⟨T1, r⟩ := T
  simp only at HL HR HT
  clear h hM hI hs hx hT hl hr hW1 hq
  go_enter Try.func18, Try.ntmps18
  go_upto_region 1 with (fail)
  rw [← HW.out.1, ← HW.out.2]
  go_wp2_with fail
  refine J.wp_region_seq (fun W => W.cell? ⟨q, 0, none⟩ = some (.int .i64 6) ∧ W.cell? ⟨q, 1, none⟩ = some (.int .i64 a) ∧ W.cell? ⟨q, 2, none⟩ = some (.int .i64 b) ∧ W.cell? ⟨q, 3, none⟩ = some (.int .u64 x)) [(0, 0), (1, 0), (2, 0), (3, 0), (4, 0), (6, 0), (7, 0), (8, 0), (9, 0), (10, 0), (5, 1), (11, 1), (12, 0), (13, 0)] (by kernel_rfl) (by kernel_rfl) (by kernel_rfl) ⟨x0, x1, x2, x3⟩ ?_
  iterate 10 (apply J.look (by rfl) (by rfl); (focus (intro W hW; obtain ⟨hW0, hW1, hW2, hW3⟩ := hW; go_simp; exact HasV.val rfl)); simp only [Act.put, List.setIfInBounds_toArray, List.set_cons_zero, List.set_cons_succ])
  refine J.link (fun u W => u = .int .i64 r ∧ Mid w0 g V g2 V2 q (.cells #[.int .i64 6, .int .i64 a, .int .i64 b, .int .u64 x] 53 (0, 0)) T1 s W) (by rfl) (by rfl) ?_ (fun u W hR => hR.2.cells) ?_
  · have hc := HL.out _ HM.out.drew
    go_simp
    refine J.HasR.call (hc.mono ?_)
    rintro e W ⟨rfl, hM⟩
    exact ⟨_, rfl, rfl, hM⟩
  rintro u W2 ⟨rfl, hM2⟩
  simp only [Act.put, List.setIfInBounds_toArray, List.set_cons_zero, List.set_cons_succ]
  refine J.link (fun u W => u = .int .i64 r ∧ Mid w0 g V g2 V2 q (.cells #[.int .i64 6, .int .i64 a, .int .i64 b, .int .u64 x] 53 (0, 0)) T1 T1 W) (by rfl) (by rfl) ?_ (fun u W hR => hR.2.cells) ?_
  · have hc := HR.out _ hM2
    go_simp
    refine J.HasR.call (hc.mono ?_)
    rintro e W ⟨rfl, hM⟩
    exact ⟨_, rfl, rfl, hM⟩
  rintro u W3 ⟨rfl, hM3⟩
  simp only [Act.put, List.setIfInBounds_toArray, List.set_cons_zero, List.set_cons_succ]
  iterate 2 (apply J.look (by rfl) (by rfl); (focus (intro W hW; go_simp; exact HasV.val rfl)); simp only [Act.put, List.setIfInBounds_toArray, List.set_cons_zero, List.set_cons_succ])
  refine J.fin ?_
  have hfin := Lib.hid (hM3.two HT.out.1 HT.out.2)
  clear hM2 hM3
  go_wp2
  go_ret
  exact ⟨rfl, hfin.out⟩
set_option maxRecDepth 20000 in
set_option maxHeartbeats 4000000 in
theorem do_7 {w0 W : World} {g g2 n : Nat} {V V2 : Value} (h : Two w0 g V g2 V2 n W) (hn : n ≤ 1000) (a b x : Int) (hx : U64 x) :
    Calls Try.prog 18 #[.pointer (some ⟨g, 0, none⟩), .pointer (some ⟨g2, 0, none⟩), .agg #[.int .i64 7, .int .i64 a, .int .i64 b, .int .u64 x]] W fun e w' => e = .returned (.bool true) ∧ Two w0 g V g2 V2 n w' := by
  obtain ⟨s, hM, hI, hs⟩ := h.mid (.cells #[.int .i64 7, .int .i64 a, .int .i64 b, .int .u64 x] 53 (0, 0))
  obtain ⟨W1, hW1⟩ : ∃ W1, W1 = W.alloc (.cells #[.int .i64 7, .int .i64 a, .int .i64 b, .int .u64 x] 53) := ⟨_, rfl⟩
  obtain ⟨q, hq⟩ : ∃ q, q = W.heap.size := ⟨_, rfl⟩
  rw [← hW1, ← hq] at hM
  have HW := Lib.hid (⟨hW1, hq⟩ : _ ∧ _)
  have HM := Lib.hid hM
  obtain ⟨x0, x1, x2, x3⟩ := hM.cells
  obtain ⟨T, hT⟩ : ∃ T, T = s.forfeit a x := ⟨_, rfl⟩
  have hl : ∀ W', Mid w0 g V g2 V2 q (.cells #[.int .i64 7, .int .i64 a, .int .i64 b, .int .u64 x] 53 (0, 0)) s s W' → Calls Try.prog 24 #[.pointer (some ⟨g, 0, none⟩), .int .i64 a, .int .u64 x] W' fun e w' => e = .returned (.int .i64 T.2) ∧ Mid w0 g V g2 V2 q (.cells #[.int .i64 7, .int .i64 a, .int .i64 b, .int .u64 x] 53 (0, 0)) T.1 s w' := fun W' hM => hM.l (fun L h => by rw [hT]; exact forfeit_any h hI.U a x hx)
  have hr : ∀ W', Mid w0 g V g2 V2 q (.cells #[.int .i64 7, .int .i64 a, .int .i64 b, .int .u64 x] 53 (0, 0)) T.1 s W' → Calls Try.prog 48 #[.pointer (some ⟨g2, 0, none⟩), .int .i64 a, .int .u64 x] W' fun e w' => e = .returned (.int .i64 T.2) ∧ Mid w0 g V g2 V2 q (.cells #[.int .i64 7, .int .i64 a, .int .i64 b, .int .u64 x] 53 (0, 0)) T.1 T.1 w' := fun W' hM => hM.r (fun L h => by rw [hT]; exact rforfeit_any h hI.U a x hx)
  have HT : Hid (T.1.Inv ∧ T.1.acc.length = n) := Lib.hid (by
    rw [hT]
    have := forfeit_inv hI a x hx.1
    exact ⟨this.1, this.2.2.trans hs⟩)
  have HL := Lib.hid hl
  have HR := Lib.hid hr
  obtain ⟨T1, r⟩ := T
  simp only at HL HR HT
  clear h hM hI hs hx hT hl hr hW1 hq
  go_enter Try.func18, Try.ntmps18
  go_upto_region 1 with (fail)
  rw [← HW.out.1, ← HW.out.2]
  go_wp2_with fail
  refine J.wp_region_seq (fun W => W.cell? ⟨q, 0, none⟩ = some (.int .i64 7) ∧ W.cell? ⟨q, 1, none⟩ = some (.int .i64 a) ∧ W.cell? ⟨q, 2, none⟩ = some (.int .i64 b) ∧ W.cell? ⟨q, 3, none⟩ = some (.int .u64 x)) [(0, 0), (1, 0), (2, 0), (3, 0), (4, 0), (6, 0), (7, 0), (8, 0), (9, 0), (10, 0), (5, 1), (11, 1), (12, 0), (13, 0)] (by kernel_rfl) (by kernel_rfl) (by kernel_rfl) ⟨x0, x1, x2, x3⟩ ?_
  iterate 10 (apply J.look (by rfl) (by rfl); (focus (intro W hW; obtain ⟨hW0, hW1, hW2, hW3⟩ := hW; go_simp; exact HasV.val rfl)); simp only [Act.put, List.setIfInBounds_toArray, List.set_cons_zero, List.set_cons_succ])
  refine J.link (fun u W => u = .int .i64 r ∧ Mid w0 g V g2 V2 q (.cells #[.int .i64 7, .int .i64 a, .int .i64 b, .int .u64 x] 53 (0, 0)) T1 s W) (by rfl) (by rfl) ?_ (fun u W hR => hR.2.cells) ?_
  · have hc := HL.out _ HM.out.drew
    go_simp
    refine J.HasR.call (hc.mono ?_)
    rintro e W ⟨rfl, hM⟩
    exact ⟨_, rfl, rfl, hM⟩
  rintro u W2 ⟨rfl, hM2⟩
  simp only [Act.put, List.setIfInBounds_toArray, List.set_cons_zero, List.set_cons_succ]
  refine J.link (fun u W => u = .int .i64 r ∧ Mid w0 g V g2 V2 q (.cells #[.int .i64 7, .int .i64 a, .int .i64 b, .int .u64 x] 53 (0, 0)) T1 T1 W) (by rfl) (by rfl) ?_ (fun u W hR => hR.2.cells) ?_
  · have hc := HR.out _ hM2
    go_simp
    refine J.HasR.call (hc.mono ?_)
    rintro e W ⟨rfl, hM⟩
    exact ⟨_, rfl, rfl, hM⟩
  rintro u W3 ⟨rfl, hM3⟩
  simp only [Act.put, List.setIfInBounds_toArray, List.set_cons_zero, List.set_cons_succ]
  iterate 2 (apply J.look (by rfl) (by rfl); (focus (intro W hW; go_simp; exact HasV.val rfl)); simp only [Act.put, List.setIfInBounds_toArray, List.set_cons_zero, List.set_cons_succ])
  refine J.fin ?_
  have hfin := Lib.hid (hM3.two HT.out.1 HT.out.2)
  clear hM2 hM3
  go_wp2
  go_ret
  exact ⟨rfl, hfin.out⟩
set_option maxRecDepth 20000 in
set_option maxHeartbeats 4000000 in
theorem do_8 {w0 W : World} {g g2 n : Nat} {V V2 : Value} (h : Two w0 g V g2 V2 n W) (hn : n ≤ 1000) (a b x : Int) (hx : U64 x) :
    Calls Try.prog 18 #[.pointer (some ⟨g, 0, none⟩), .pointer (some ⟨g2, 0, none⟩), .agg #[.int .i64 8, .int .i64 a, .int .i64 b, .int .u64 x]] W fun e w' => e = .returned (.bool true) ∧ Two w0 g V g2 V2 n w' := by
  obtain ⟨s, hM, hI, hs⟩ := h.mid (.cells #[.int .i64 8, .int .i64 a, .int .i64 b, .int .u64 x] 53 (0, 0))
  obtain ⟨W1, hW1⟩ : ∃ W1, W1 = W.alloc (.cells #[.int .i64 8, .int .i64 a, .int .i64 b, .int .u64 x] 53) := ⟨_, rfl⟩
  obtain ⟨q, hq⟩ : ∃ q, q = W.heap.size := ⟨_, rfl⟩
  rw [← hW1, ← hq] at hM
  have HW := Lib.hid (⟨hW1, hq⟩ : _ ∧ _)
  have HM := Lib.hid hM
  obtain ⟨x0, x1, x2, x3⟩ := hM.cells
  obtain ⟨T, hT⟩ : ∃ T, T = s.mint x := ⟨_, rfl⟩
  have hl : ∀ W', Mid w0 g V g2 V2 q (.cells #[.int .i64 8, .int .i64 a, .int .i64 b, .int .u64 x] 53 (0, 0)) s s W' → Calls Try.prog 20 #[.pointer (some ⟨g, 0, none⟩), .int .u64 x] W' fun e w' => e = .returned (.int .i64 T.2) ∧ Mid w0 g V g2 V2 q (.cells #[.int .i64 8, .int .i64 a, .int .i64 b, .int .u64 x] 53 (0, 0)) T.1 s w' := fun W' hM => hM.l (fun L h => by rw [hT]; exact mint_any h hI.iss x hx)
  have hr : ∀ W', Mid w0 g V g2 V2 q (.cells #[.int .i64 8, .int .i64 a, .int .i64 b, .int .u64 x] 53 (0, 0)) T.1 s W' → Calls Try.prog 49 #[.pointer (some ⟨g2, 0, none⟩), .int .u64 x] W' fun e w' => e = .returned (.int .i64 T.2) ∧ Mid w0 g V g2 V2 q (.cells #[.int .i64 8, .int .i64 a, .int .i64 b, .int .u64 x] 53 (0, 0)) T.1 T.1 w' := fun W' hM => hM.r (fun L h => by rw [hT]; exact rmint_any h hI (by omega) x hx)
  have HT : Hid (T.1.Inv ∧ T.1.acc.length = n) := Lib.hid (by
    rw [hT]
    have := mint_inv hI x hx.1
    exact ⟨this.1, this.2.2.1.trans hs⟩)
  have HL := Lib.hid hl
  have HR := Lib.hid hr
  obtain ⟨T1, r⟩ := T
  simp only at HL HR HT
  clear h hM hI hs hx hT hl hr hW1 hq
  go_enter Try.func18, Try.ntmps18
  go_upto_region 1 with (fail)
  rw [← HW.out.1, ← HW.out.2]
  go_wp2_with fail
  refine J.wp_region_seq (fun W => W.cell? ⟨q, 0, none⟩ = some (.int .i64 8) ∧ W.cell? ⟨q, 1, none⟩ = some (.int .i64 a) ∧ W.cell? ⟨q, 2, none⟩ = some (.int .i64 b) ∧ W.cell? ⟨q, 3, none⟩ = some (.int .u64 x)) [(0, 0), (1, 0), (2, 0), (4, 0), (5, 0), (6, 0), (3, 1), (7, 1), (8, 0), (9, 0)] (by kernel_rfl) (by kernel_rfl) (by kernel_rfl) ⟨x0, x1, x2, x3⟩ ?_
  iterate 6 (apply J.look (by rfl) (by rfl); (focus (intro W hW; obtain ⟨hW0, hW1, hW2, hW3⟩ := hW; go_simp; exact HasV.val rfl)); simp only [Act.put, List.setIfInBounds_toArray, List.set_cons_zero, List.set_cons_succ])
  refine J.link (fun u W => u = .int .i64 r ∧ Mid w0 g V g2 V2 q (.cells #[.int .i64 8, .int .i64 a, .int .i64 b, .int .u64 x] 53 (0, 0)) T1 s W) (by rfl) (by rfl) ?_ (fun u W hR => hR.2.cells) ?_
  · have hc := HL.out _ HM.out.drew
    go_simp
    refine J.HasR.call (hc.mono ?_)
    rintro e W ⟨rfl, hM⟩
    exact ⟨_, rfl, rfl, hM⟩
  rintro u W2 ⟨rfl, hM2⟩
  simp only [Act.put, List.setIfInBounds_toArray, List.set_cons_zero, List.set_cons_succ]
  refine J.link (fun u W => u = .int .i64 r ∧ Mid w0 g V g2 V2 q (.cells #[.int .i64 8, .int .i64 a, .int .i64 b, .int .u64 x] 53 (0, 0)) T1 T1 W) (by rfl) (by rfl) ?_ (fun u W hR => hR.2.cells) ?_
  · have hc := HR.out _ hM2
    go_simp
    refine J.HasR.call (hc.mono ?_)
    rintro e W ⟨rfl, hM⟩
    exact ⟨_, rfl, rfl, hM⟩
  rintro u W3 ⟨rfl, hM3⟩
  simp only [Act.put, List.setIfInBounds_toArray, List.set_cons_zero, List.set_cons_succ]
  iterate 2 (apply J.look (by rfl) (by rfl); (focus (intro W hW; go_simp; exact HasV.val rfl)); simp only [Act.put, List.setIfInBounds_toArray, List.set_cons_zero, List.set_cons_succ])
  refine J.fin ?_
  have hfin := Lib.hid (hM3.two HT.out.1 HT.out.2)
  clear hM2 hM3
  go_wp2
  go_ret
  exact ⟨rfl, hfin.out⟩
set_option maxRecDepth 20000 in
set_option maxHeartbeats 4000000 in
theorem do_9 {w0 W : World} {g g2 n : Nat} {V V2 : Value} (h : Two w0 g V g2 V2 n W) (hn : n ≤ 1000) (a b x : Int) (hx : U64 x) :
    Calls Try.prog 18 #[.pointer (some ⟨g, 0, none⟩), .pointer (some ⟨g2, 0, none⟩), .agg #[.int .i64 9, .int .i64 a, .int .i64 b, .int .u64 x]] W fun e w' => e = .returned (.bool true) ∧ Two w0 g V g2 V2 n w' := by
  obtain ⟨s, hM, hI, hs⟩ := h.mid (.cells #[.int .i64 9, .int .i64 a, .int .i64 b, .int .u64 x] 53 (0, 0))
  obtain ⟨W1, hW1⟩ : ∃ W1, W1 = W.alloc (.cells #[.int .i64 9, .int .i64 a, .int .i64 b, .int .u64 x] 53) := ⟨_, rfl⟩
  obtain ⟨q, hq⟩ : ∃ q, q = W.heap.size := ⟨_, rfl⟩
  rw [← hW1, ← hq] at hM
  have HW := Lib.hid (⟨hW1, hq⟩ : _ ∧ _)
  have HM := Lib.hid hM
  obtain ⟨x0, x1, x2, x3⟩ := hM.cells
  obtain ⟨T, hT⟩ : ∃ T, T = s.pay a x := ⟨_, rfl⟩
  have hl : ∀ W', Mid w0 g V g2 V2 q (.cells #[.int .i64 9, .int .i64 a, .int .i64 b, .int .u64 x] 53 (0, 0)) s s W' → Calls Try.prog 25 #[.pointer (some ⟨g, 0, none⟩), .int .i64 a, .int .u64 x] W' fun e w' => e = .returned (.int .i64 T.2) ∧ Mid w0 g V g2 V2 q (.cells #[.int .i64 9, .int .i64 a, .int .i64 b, .int .u64 x] 53 (0, 0)) T.1 s w' := fun W' hM => hM.l (fun L h => by rw [hT]; exact pay_any h hI.U a x hx)
  have hr : ∀ W', Mid w0 g V g2 V2 q (.cells #[.int .i64 9, .int .i64 a, .int .i64 b, .int .u64 x] 53 (0, 0)) T.1 s W' → Calls Try.prog 50 #[.pointer (some ⟨g2, 0, none⟩), .int .i64 a, .int .u64 x] W' fun e w' => e = .returned (.int .i64 T.2) ∧ Mid w0 g V g2 V2 q (.cells #[.int .i64 9, .int .i64 a, .int .i64 b, .int .u64 x] 53 (0, 0)) T.1 T.1 w' := fun W' hM => hM.r (fun L h => by rw [hT]; exact rpay_any h hI.U a x hx)
  have HT : Hid (T.1.Inv ∧ T.1.acc.length = n) := Lib.hid (by
    rw [hT]
    have := pay_inv hI a x hx.1
    exact ⟨this.1, this.2.2.trans hs⟩)
  have HL := Lib.hid hl
  have HR := Lib.hid hr
  obtain ⟨T1, r⟩ := T
  simp only at HL HR HT
  clear h hM hI hs hx hT hl hr hW1 hq
  go_enter Try.func18, Try.ntmps18
  go_upto_region 1 with (fail)
  rw [← HW.out.1, ← HW.out.2]
  go_wp2_with fail
  refine J.wp_region_seq (fun W => W.cell? ⟨q, 0, none⟩ = some (.int .i64 9) ∧ W.cell? ⟨q, 1, none⟩ = some (.int .i64 a) ∧ W.cell? ⟨q, 2, none⟩ = some (.int .i64 b) ∧ W.cell? ⟨q, 3, none⟩ = some (.int .u64 x)) [(0, 0), (1, 0), (2, 0), (3, 0), (4, 0), (6, 0), (7, 0), (8, 0), (9, 0), (10, 0), (5, 1), (11, 1), (12, 0), (13, 0)] (by kernel_rfl) (by kernel_rfl) (by kernel_rfl) ⟨x0, x1, x2, x3⟩ ?_
  iterate 10 (apply J.look (by rfl) (by rfl); (focus (intro W hW; obtain ⟨hW0, hW1, hW2, hW3⟩ := hW; go_simp; exact HasV.val rfl)); simp only [Act.put, List.setIfInBounds_toArray, List.set_cons_zero, List.set_cons_succ])
  refine J.link (fun u W => u = .int .i64 r ∧ Mid w0 g V g2 V2 q (.cells #[.int .i64 9, .int .i64 a, .int .i64 b, .int .u64 x] 53 (0, 0)) T1 s W) (by rfl) (by rfl) ?_ (fun u W hR => hR.2.cells) ?_
  · have hc := HL.out _ HM.out.drew
    go_simp
    refine J.HasR.call (hc.mono ?_)
    rintro e W ⟨rfl, hM⟩
    exact ⟨_, rfl, rfl, hM⟩
  rintro u W2 ⟨rfl, hM2⟩
  simp only [Act.put, List.setIfInBounds_toArray, List.set_cons_zero, List.set_cons_succ]
  refine J.link (fun u W => u = .int .i64 r ∧ Mid w0 g V g2 V2 q (.cells #[.int .i64 9, .int .i64 a, .int .i64 b, .int .u64 x] 53 (0, 0)) T1 T1 W) (by rfl) (by rfl) ?_ (fun u W hR => hR.2.cells) ?_
  · have hc := HR.out _ hM2
    go_simp
    refine J.HasR.call (hc.mono ?_)
    rintro e W ⟨rfl, hM⟩
    exact ⟨_, rfl, rfl, hM⟩
  rintro u W3 ⟨rfl, hM3⟩
  simp only [Act.put, List.setIfInBounds_toArray, List.set_cons_zero, List.set_cons_succ]
  iterate 2 (apply J.look (by rfl) (by rfl); (focus (intro W hW; go_simp; exact HasV.val rfl)); simp only [Act.put, List.setIfInBounds_toArray, List.set_cons_zero, List.set_cons_succ])
  refine J.fin ?_
  have hfin := Lib.hid (hM3.two HT.out.1 HT.out.2)
  clear hM2 hM3
  go_wp2
  go_ret
  exact ⟨rfl, hfin.out⟩
set_option maxRecDepth 20000 in
set_option maxHeartbeats 4000000 in
theorem do_10 {w0 W : World} {g g2 n : Nat} {V V2 : Value} (h : Two w0 g V g2 V2 n W) (hn : n ≤ 1000) (a b x : Int) (hx : U64 x) :
    Calls Try.prog 18 #[.pointer (some ⟨g, 0, none⟩), .pointer (some ⟨g2, 0, none⟩), .agg #[.int .i64 10, .int .i64 a, .int .i64 b, .int .u64 x]] W fun e w' => e = .returned (.bool true) ∧ Two w0 g V g2 V2 n w' := by
  obtain ⟨s, hM, hI, hs⟩ := h.mid (.cells #[.int .i64 10, .int .i64 a, .int .i64 b, .int .u64 x] 53 (0, 0))
  obtain ⟨W1, hW1⟩ : ∃ W1, W1 = W.alloc (.cells #[.int .i64 10, .int .i64 a, .int .i64 b, .int .u64 x] 53) := ⟨_, rfl⟩
  obtain ⟨q, hq⟩ : ∃ q, q = W.heap.size := ⟨_, rfl⟩
  rw [← hW1, ← hq] at hM
  have HW := Lib.hid (⟨hW1, hq⟩ : _ ∧ _)
  have HM := Lib.hid hM
  obtain ⟨x0, x1, x2, x3⟩ := hM.cells
  obtain ⟨T, hT⟩ : ∃ T, T = s.keep x := ⟨_, rfl⟩
  have hl : ∀ W', Mid w0 g V g2 V2 q (.cells #[.int .i64 10, .int .i64 a, .int .i64 b, .int .u64 x] 53 (0, 0)) s s W' → Calls Try.prog 26 #[.pointer (some ⟨g, 0, none⟩), .int .u64 x] W' fun e w' => e = .returned (.int .i64 T.2) ∧ Mid w0 g V g2 V2 q (.cells #[.int .i64 10, .int .i64 a, .int .i64 b, .int .u64 x] 53 (0, 0)) T.1 s w' := fun W' hM => hM.l (fun L h => by rw [hT]; exact keep_any h hI.U x hx)
  have hr : ∀ W', Mid w0 g V g2 V2 q (.cells #[.int .i64 10, .int .i64 a, .int .i64 b, .int .u64 x] 53 (0, 0)) T.1 s W' → Calls Try.prog 51 #[.pointer (some ⟨g2, 0, none⟩), .int .u64 x] W' fun e w' => e = .returned (.int .i64 T.2) ∧ Mid w0 g V g2 V2 q (.cells #[.int .i64 10, .int .i64 a, .int .i64 b, .int .u64 x] 53 (0, 0)) T.1 T.1 w' := fun W' hM => hM.r (fun L h => by rw [hT]; exact rkeep_any h hI.U x hx)
  have HT : Hid (T.1.Inv ∧ T.1.acc.length = n) := Lib.hid (by
    rw [hT]
    have := keep_inv hI x hx.1
    exact ⟨this.1, this.2.2.trans hs⟩)
  have HL := Lib.hid hl
  have HR := Lib.hid hr
  obtain ⟨T1, r⟩ := T
  simp only at HL HR HT
  clear h hM hI hs hx hT hl hr hW1 hq
  go_enter Try.func18, Try.ntmps18
  go_upto_region 1 with (fail)
  rw [← HW.out.1, ← HW.out.2]
  go_wp2_with fail
  refine J.wp_region_seq (fun W => W.cell? ⟨q, 0, none⟩ = some (.int .i64 10) ∧ W.cell? ⟨q, 1, none⟩ = some (.int .i64 a) ∧ W.cell? ⟨q, 2, none⟩ = some (.int .i64 b) ∧ W.cell? ⟨q, 3, none⟩ = some (.int .u64 x)) [(0, 0), (1, 0), (2, 0), (4, 0), (5, 0), (6, 0), (3, 1), (7, 1), (8, 0), (9, 0)] (by kernel_rfl) (by kernel_rfl) (by kernel_rfl) ⟨x0, x1, x2, x3⟩ ?_
  iterate 6 (apply J.look (by rfl) (by rfl); (focus (intro W hW; obtain ⟨hW0, hW1, hW2, hW3⟩ := hW; go_simp; exact HasV.val rfl)); simp only [Act.put, List.setIfInBounds_toArray, List.set_cons_zero, List.set_cons_succ])
  refine J.link (fun u W => u = .int .i64 r ∧ Mid w0 g V g2 V2 q (.cells #[.int .i64 10, .int .i64 a, .int .i64 b, .int .u64 x] 53 (0, 0)) T1 s W) (by rfl) (by rfl) ?_ (fun u W hR => hR.2.cells) ?_
  · have hc := HL.out _ HM.out.drew
    go_simp
    refine J.HasR.call (hc.mono ?_)
    rintro e W ⟨rfl, hM⟩
    exact ⟨_, rfl, rfl, hM⟩
  rintro u W2 ⟨rfl, hM2⟩
  simp only [Act.put, List.setIfInBounds_toArray, List.set_cons_zero, List.set_cons_succ]
  refine J.link (fun u W => u = .int .i64 r ∧ Mid w0 g V g2 V2 q (.cells #[.int .i64 10, .int .i64 a, .int .i64 b, .int .u64 x] 53 (0, 0)) T1 T1 W) (by rfl) (by rfl) ?_ (fun u W hR => hR.2.cells) ?_
  · have hc := HR.out _ hM2
    go_simp
    refine J.HasR.call (hc.mono ?_)
    rintro e W ⟨rfl, hM⟩
    exact ⟨_, rfl, rfl, hM⟩
  rintro u W3 ⟨rfl, hM3⟩
  simp only [Act.put, List.setIfInBounds_toArray, List.set_cons_zero, List.set_cons_succ]
  iterate 2 (apply J.look (by rfl) (by rfl); (focus (intro W hW; go_simp; exact HasV.val rfl)); simp only [Act.put, List.setIfInBounds_toArray, List.set_cons_zero, List.set_cons_succ])
  refine J.fin ?_
  have hfin := Lib.hid (hM3.two HT.out.1 HT.out.2)
  clear hM2 hM3
  go_wp2
  go_ret
  exact ⟨rfl, hfin.out⟩
set_option maxRecDepth 20000 in
set_option maxHeartbeats 4000000 in
theorem do_4 {w0 W : World} {g g2 n : Nat} {V V2 : Value} (h : Two w0 g V g2 V2 n W) (hn : n ≤ 1000) (a b x : Int) (hx : U64 x) :
    Calls Try.prog 18 #[.pointer (some ⟨g, 0, none⟩), .pointer (some ⟨g2, 0, none⟩), .agg #[.int .i64 4, .int .i64 a, .int .i64 b, .int .u64 x]] W fun e w' => e = .returned (.bool true) ∧ Two w0 g V g2 V2 n w' := by
  obtain ⟨s, hM, hI, hs⟩ := h.mid (.cells #[.int .i64 4, .int .i64 a, .int .i64 b, .int .u64 x] 53 (0, 0))
  obtain ⟨W1, hW1⟩ : ∃ W1, W1 = W.alloc (.cells #[.int .i64 4, .int .i64 a, .int .i64 b, .int .u64 x] 53) := ⟨_, rfl⟩
  obtain ⟨q, hq⟩ : ∃ q, q = W.heap.size := ⟨_, rfl⟩
  rw [← hW1, ← hq] at hM
  have HW := Lib.hid (⟨hW1, hq⟩ : _ ∧ _)
  have HM := Lib.hid hM
  obtain ⟨x0, x1, x2, x3⟩ := hM.cells
  obtain ⟨T, hT⟩ : ∃ T, T = s.withdraw a b := ⟨_, rfl⟩
  have hl : Calls Try.prog 13 #[.pointer (some ⟨g, 0, none⟩), .int .i64 a, .int .i64 b] W1 fun e w' => e = .returned (.tuple #[.int .u64 T.2.1, .int .i64 T.2.2]) ∧ Mid w0 g V g2 V2 q (.cells #[.int .i64 4, .int .i64 a, .int .i64 b, .int .u64 x] 53 (0, 0)) T.1 s w' := hM.l (fun L h => by rw [hT]; exact withdraw_any h a b (by have := hI.few a; omega))
  have hr : ∀ W', Mid w0 g V g2 V2 q (.cells #[.int .i64 4, .int .i64 a, .int .i64 b, .int .u64 x] 53 (0, 0)) T.1 s W' → Calls Try.prog 45 #[.pointer (some ⟨g2, 0, none⟩), .int .i64 a, .int .i64 b] W' fun e w' => e = .returned (.tuple #[.int .u64 T.2.1, .int .i64 T.2.2]) ∧ Mid w0 g V g2 V2 q (.cells #[.int .i64 4, .int .i64 a, .int .i64 b, .int .u64 x] 53 (0, 0)) T.1 T.1 w' := fun W' hM => hM.r (fun L h => by rw [hT]; exact rwithdraw_any h a b (by have := hI.few a; omega))
  have HT : Hid (T.1.Inv ∧ T.1.acc.length = n) := Lib.hid (by
    rw [hT]
    have := withdraw_inv hI a b
    exact ⟨this.1, this.2.2.trans hs⟩)
  have HR := Lib.hid hr
  obtain ⟨T1, v, r⟩ := T
  simp only at hl HR HT
  clear h hM hI hs hx hT hr hW1 hq
  go_enter Try.func18, Try.ntmps18
  go_upto_region 1 with (fail)
  rw [← HW.out.1, ← HW.out.2]
  go_wp2_with fail
  refine hl.mono ?_
  rintro e W2 ⟨rfl, hM2⟩
  have hc := HR.out _ hM2
  obtain ⟨y0, y1, y2, y3⟩ := hM2.cells
  clear hl hM2 x0 x1 x2 x3
  go_wp2_with fail
  refine hc.mono ?_
  rintro e W3 ⟨rfl, hM3⟩
  have hfin := Lib.hid (hM3.two HT.out.1 HT.out.2)
  clear hM3 hc y0 y1 y2 y3
  go_wp2
  go_ret
  exact ⟨rfl, hfin.out⟩
set_option maxRecDepth 20000 in
set_option maxHeartbeats 4000000 in
theorem do_11 {w0 W : World} {g g2 n : Nat} {V V2 : Value} (h : Two w0 g V g2 V2 n W) (hn : n ≤ 1000) (a b x : Int) (hx : U64 x) :
    Calls Try.prog 18 #[.pointer (some ⟨g, 0, none⟩), .pointer (some ⟨g2, 0, none⟩), .agg #[.int .i64 11, .int .i64 a, .int .i64 b, .int .u64 x]] W fun e w' => e = .returned (.bool true) ∧ Two w0 g V g2 V2 n w' := by
  obtain ⟨s, hM, hI, hs⟩ := h.mid (.cells #[.int .i64 11, .int .i64 a, .int .i64 b, .int .u64 x] 53 (0, 0))
  obtain ⟨W1, hW1⟩ : ∃ W1, W1 = W.alloc (.cells #[.int .i64 11, .int .i64 a, .int .i64 b, .int .u64 x] 53) := ⟨_, rfl⟩
  obtain ⟨q, hq⟩ : ∃ q, q = W.heap.size := ⟨_, rfl⟩
  rw [← hW1, ← hq] at hM
  have HW := Lib.hid (⟨hW1, hq⟩ : _ ∧ _)
  have HM := Lib.hid hM
  obtain ⟨x0, x1, x2, x3⟩ := hM.cells
  obtain ⟨T, hT⟩ : ∃ T, T = s.slash a x := ⟨_, rfl⟩
  have hl : Calls Try.prog 15 #[.pointer (some ⟨g, 0, none⟩), .int .i64 a, .int .u64 x] W1 fun e w' => e = .returned (.tuple #[.int .u64 T.2.1, .int .i64 T.2.2]) ∧ Mid w0 g V g2 V2 q (.cells #[.int .i64 11, .int .i64 a, .int .i64 b, .int .u64 x] 53 (0, 0)) T.1 s w' := hM.l (fun L h => by rw [hT]; exact slash_any h hI.U hI.C a x hx)
  have hr : ∀ W', Mid w0 g V g2 V2 q (.cells #[.int .i64 11, .int .i64 a, .int .i64 b, .int .u64 x] 53 (0, 0)) T.1 s W' → Calls Try.prog 52 #[.pointer (some ⟨g2, 0, none⟩), .int .i64 a, .int .u64 x] W' fun e w' => e = .returned (.tuple #[.int .u64 T.2.1, .int .i64 T.2.2]) ∧ Mid w0 g V g2 V2 q (.cells #[.int .i64 11, .int .i64 a, .int .i64 b, .int .u64 x] 53 (0, 0)) T.1 T.1 w' := fun W' hM => hM.r (fun L h => by rw [hT]; exact rslash_any h hI.U hI.C a x hx)
  have HT : Hid (T.1.Inv ∧ T.1.acc.length = n) := Lib.hid (by
    rw [hT]
    have := slash_inv hI a x hx
    exact ⟨this.1, this.2.2.trans hs⟩)
  have HR := Lib.hid hr
  obtain ⟨T1, v, r⟩ := T
  simp only at hl HR HT
  clear h hM hI hs hx hT hr hW1 hq
  go_enter Try.func18, Try.ntmps18
  go_upto_region 1 with (fail)
  rw [← HW.out.1, ← HW.out.2]
  go_wp2_with fail
  refine hl.mono ?_
  rintro e W2 ⟨rfl, hM2⟩
  have hc := HR.out _ hM2
  obtain ⟨y0, y1, y2, y3⟩ := hM2.cells
  clear hl hM2 x0 x1 x2 x3
  go_wp2_with fail
  refine hc.mono ?_
  rintro e W3 ⟨rfl, hM3⟩
  have hfin := Lib.hid (hM3.two HT.out.1 HT.out.2)
  clear hM3 hc y0 y1 y2 y3
  go_wp2
  go_ret
  exact ⟨rfl, hfin.out⟩
set_option maxRecDepth 20000 in
set_option maxHeartbeats 4000000 in
theorem do_any {w0 W : World} {g g2 n : Nat} {V V2 : Value} (h : Two w0 g V g2 V2 n W) (hn : n ≤ 1000) (kd a b x : Int) (hx : U64 x) :
    Calls Try.prog 18 #[.pointer (some ⟨g, 0, none⟩), .pointer (some ⟨g2, 0, none⟩), .agg #[.int .i64 kd, .int .i64 a, .int .i64 b, .int .u64 x]] W fun e w' => e = .returned (.bool true) ∧ Two w0 g V g2 V2 n w' := by
  by_cases k1 : kd = 1
  · subst k1; exact do_1 h hn a b x hx
  by_cases k2 : kd = 2
  · subst k2; exact do_2 h hn a b x hx
  by_cases k3 : kd = 3
  · subst k3; exact do_3 h hn a b x hx
  by_cases k4 : kd = 4
  · subst k4; exact do_4 h hn a b x hx
  by_cases k5 : kd = 5
  · subst k5; exact do_5 h hn a b x hx
  by_cases k6 : kd = 6
  · subst k6; exact do_6 h hn a b x hx
  by_cases k7 : kd = 7
  · subst k7; exact do_7 h hn a b x hx
  by_cases k8 : kd = 8
  · subst k8; exact do_8 h hn a b x hx
  by_cases k9 : kd = 9
  · subst k9; exact do_9 h hn a b x hx
  by_cases k10 : kd = 10
  · subst k10; exact do_10 h hn a b x hx
  by_cases k11 : kd = 11
  · subst k11; exact do_11 h hn a b x hx
  have hC : Chg (fun _ => False) W (W.alloc (.cells #[.int .i64 kd, .int .i64 a, .int .i64 b, .int .u64 x] 53)) := (Chg.refl _ _).alloc _
  have kq : (W.alloc (.cells #[.int .i64 kd, .int .i64 a, .int .i64 b, .int .u64 x] 53)).heap[W.heap.size]? = some (.cells #[.int .i64 kd, .int .i64 a, .int .i64 b, .int .u64 x] 53 (0, 0)) := heap_alloc_at _ _
  obtain ⟨x0, x1, x2, x3⟩ := read4 kq
  have hfin := Lib.hid (h.keep hC)
  clear h hC kq hx
  go_enter Try.func18, Try.ntmps18
  go_wp2
  go_ret
  exact ⟨rfl, hfin.out⟩
end Go.Proofs.Ytpndkelbchjkiaa
