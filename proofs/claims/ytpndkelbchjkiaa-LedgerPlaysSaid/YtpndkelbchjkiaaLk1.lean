/- What an account tells is memory of its own: the law's walk. -/
import Derived.Test.YtpndkelbchjkiaaLy
set_option linter.unusedVariables false
set_option linter.unusedSimpArgs false
namespace Go.Proofs.Ytpndkelbchjkiaa
open Go.RowKit Go.Ps
def k0 (a b : Int) : S := ⟨[⟨a + b, 0, 0, []⟩], 0, 0, a + b⟩
def k1 (a b : Int) : S := ⟨[⟨a, b, 0, []⟩], 0, 0, a + b⟩
def k2 (a b era : Int) : S := ⟨[⟨a, 0, 0, [(b, era)]⟩], 0, 0, a + b⟩
theorem k0_U (a b : Int) (ha : 0 ≤ a ∧ a < 4294967296) (hb : 0 ≤ b ∧ b < 4294967296) : (k0 a b).U := by
  intro P hP
  unfold U64
  match P, hP with
  | .tre, _ => exact ⟨Int.le_refl _, by show (0:Int) < _; omega⟩
  | .pot, _ => exact ⟨Int.le_refl _, by show (0:Int) < _; omega⟩
  | .acc i j, hP =>
    obtain ⟨h1, h2⟩ := hP
    have : i = 0 := by simp [k0] at h1; exact h1
    subst this
    match j, h2 with
    | 0, _ => show 0 ≤ a + b ∧ a + b < _; omega
    | 1, _ => show (0:Int) ≤ 0 ∧ (0:Int) < _; omega
    | 2, _ => show (0:Int) ≤ 0 ∧ (0:Int) < _; omega
theorem k1_U (a b : Int) (ha : 0 ≤ a ∧ a < 4294967296) (hb : 0 ≤ b ∧ b < 4294967296) : (k1 a b).U := by
  intro P hP
  unfold U64
  match P, hP with
  | .tre, _ => exact ⟨Int.le_refl _, by show (0:Int) < _; omega⟩
  | .pot, _ => exact ⟨Int.le_refl _, by show (0:Int) < _; omega⟩
  | .acc i j, hP =>
    obtain ⟨h1, h2⟩ := hP
    have : i = 0 := by simp [k1] at h1; exact h1
    subst this
    match j, h2 with
    | 0, _ => show 0 ≤ a ∧ a < _; omega
    | 1, _ => show 0 ≤ b ∧ b < _; omega
    | 2, _ => show (0:Int) ≤ 0 ∧ (0:Int) < _; omega
theorem k0_bond (a b : Int) (ha : 0 ≤ a ∧ a < 4294967296) (hb : 0 ≤ b ∧ b < 4294967296) : (k0 a b).bond 0 b = (k1 a b, 0) := by
  unfold S.bond S.mv
  rw [if_neg (by simp [S.bad, k0])]
  have h1 : ¬ (k0 a b).get (.acc 0 0) < b := by show ¬ (a + b < b); omega
  rw [show Int.toNat 0 = 0 from rfl, if_neg h1]
  have h2 : a + b - b = a := by omega
  have h3 : (0 + b) % 18446744073709551616 = b := by omega
  simp [S.put, S.get, k0, k1, Ac.get, Ac.put, h2]
  omega
theorem k1_unbond (a b era : Int) (ha : 0 ≤ a ∧ a < 4294967296) (hb : 0 ≤ b ∧ b < 4294967296) (h0 : ¬ b = 0) : (k1 a b).unbond 0 b era = (k2 a b era, 0) := by
  unfold S.unbond
  rw [if_neg (by simp [S.bad, k1]), if_neg h0]
  rw [show Int.toNat 0 = 0 from rfl]
  have hg : (k1 a b).acc.getD 0 a0 = ⟨a, b, 0, []⟩ := rfl
  rw [hg]
  rw [if_neg (by show ¬ b < b; omega), if_neg (by simp)]
  have h3 : (0 + b) % 18446744073709551616 = b := by omega
  simp [insC, thr, pos, Ac.unb, k1, k2]
  omega
theorem k2_withdraw (a b era : Int) (ha : 0 ≤ a ∧ a < 4294967296) (hb : 0 ≤ b ∧ b < 4294967296) : ((k2 a b era).withdraw 0 era).2 = (b, 0) ∧ ((k2 a b era).withdraw 0 era).1.iss = a + b := by
  unfold S.withdraw
  rw [if_neg (by simp [S.bad, k2])]
  rw [show Int.toNat 0 = 0 from rfl]
  have hg : (k2 a b era).acc.getD 0 a0 = ⟨a, 0, 0, [(b, era)]⟩ := rfl
  rw [hg]
  refine ⟨?_, rfl⟩
  simp [wsum]
  omega
theorem new_ls {l : List Int} {w w' : World} {e : Ending} (hl : l.length ≤ 32) (hs : (sumU 0 l).2 = 0) (h : NewPost l w e w') : ∃ g V, e = .returned (.tuple #[.pointer (some ⟨g, 0, none⟩), .int .i64 0]) ∧ LS 64 34 38 S.hd w' g V (nuL l) ⟨l.map (fun b => ⟨b, 0, 0, []⟩), 0, 0, (sumU 0 l).1⟩ ∧ Chg (fun _ => False) w w' ∧ ∀ k, Mine g V (nuL l) k → w.heap.size ≤ k := by
  unfold NewPost at h
  rw [if_neg (by omega), if_pos hs] at h
  obtain ⟨g, V, h1, h2, h3, h4⟩ := h
  refine ⟨g, V, h1, ⟨h2.gat, ?_⟩, h3, h4⟩
  show (l.map _).map _ = _
  rw [List.map_map]
  rfl
theorem iss_any {w : World} {g : Nat} {V : Value} {L : List Row} {s : S} (h : LS 64 34 38 S.hd w g V L s) : Calls Try.prog 14 #[.pointer (some ⟨g, 0, none⟩)] w fun e w' => e = .returned (.int .u64 s.iss) ∧ w = w' := issuance_any h.at_.lat
/-- A block that isn't the ledger's stays through a step. -/
theorem Stp.other {tG tA tC : TypeId} {hd : S → List Value} {w w' : World} {g : Nat} {V : Value} {L : List Row} {s' : S} (h : Stp tG tA tC hd w w' g V L s') {k : Nat} {o : Obj} (hk : ¬ Mine g V L k) (ho : w.heap[k]? = some o) : w'.heap[k]? = some o := by
  obtain ⟨L', _, _, hC, _⟩ := h
  exact (hC.block k (heap_lt ho) hk).trans ho
set_option maxRecDepth 20000 in
set_option maxHeartbeats 4000000 in
theorem ledgerKeeps_walk (a b era : Int) (w : World) (h0 : (Lit.int .u32 a).wf = true) (h1 : (Lit.int .u32 b).wf = true) (h2 : (Lit.int .i64 era).wf = true) : Calls Try.prog 3 #[.int .u32 a, .int .u32 b, .int .i64 era] w fun e w' => e = .returned (.bool true) ∧ Below w.heap.size w w' := by
  have ha : 0 ≤ a ∧ a < 4294967296 := by simp [Lit.wf, IntKind.min, IntKind.max, IntKind.signed, IntKind.bits] at h0; omega
  have hb : 0 ≤ b ∧ b < 4294967296 := by simp [Lit.wf, IntKind.min, IntKind.max, IntKind.signed, IntKind.bits] at h1; omega
  clear h0 h1 h2
  by_cases hb0 : b = 0
  · subst hb0
    clear hb ha
    go_enter Try.func3, Try.ntmps3
    go_wp2_with fail
    refine (awake_any _).mono ?_
    rintro e w1 ⟨rfl, hC⟩
    have HC := Lib.hid hC
    clear hC
    go_wp2_with fail
    refine (awake_any _).mono ?_
    rintro e w2 ⟨rfl, hC⟩
    have HC2 := Lib.hid hC
    clear hC
    go_wp2
    go_ret
    exact ⟨rfl, (HC.out.trans HC2.out (fun _ _ h => h)).below (fun k hk => ⟨hk, id⟩)⟩
  have HB := Lib.hid (⟨ha, hb⟩ : _ ∧ _)
  have hw1 : IntKind.u64.wrap (a + b) = a + b := by rw [wrap64u]; omega
  have hwa : IntKind.u64.wrap a = a := by rw [wrap64u]; omega
  have hwb : IntKind.u64.wrap b = b := by rw [wrap64u]; omega
  clear ha hb
  go_enter Try.func3, Try.ntmps3
  go_wp2_with fail
  refine (awake_any _).mono ?_
  rintro e w1 ⟨rfl, hC⟩
  have HC := Lib.hid hC
  clear hC
  go_wp2_with fail
  obtain ⟨q0, hq0⟩ : ∃ q, q = w1.heap.size := ⟨_, rfl⟩
  have hC1 : Chg (fun _ => False) w (w1.alloc (.cells #[.int .u64 (a + b)] 24)) := HC.out.alloc _
  have kq : (w1.alloc (.cells #[.int .u64 (a + b)] 24)).heap[q0]? = some (.cells #[.int .u64 (a + b)] 24 (0, 0)) := by rw [hq0]; exact heap_alloc_at _ _
  have hqw : w.heap.size ≤ q0 := by have := HC.out.size; omega
  have hsu : sumU 0 [a + b] = (a + b, 0) := by
    have := HB.out
    simp only [sumU, Int.zero_add]
    rw [if_pos (by omega)]
  refine (new_any [a + b] (w1.alloc (.cells #[.int .u64 (a + b)] 24)) (some ⟨w1.heap.size, 0, none⟩) 1 (ReadsI.of_block (t := 24) (fr := (0, 0)) (heap_alloc_at _ _)) (by simp) (by
    intro x hx
    simp at hx
    have := HB.out
    unfold U64
    omega)).mono ?_
  intro e w2 hN
  obtain ⟨g, V, rfl, hL0, hC2, hM0⟩ := new_ls (by simp) (by rw [hsu]) hN
  rw [hsu] at hL0
  rw [← hq0]
  have kq2 := chg_heap0 hC2 kq
  have hC02 := hC1.trans hC2 (fun _ _ h => h)
  have hqs : q0 < (w1.alloc (.cells #[.int .u64 (a + b)] 24)).heap.size := heap_lt kq
  obtain ⟨L0, hL0e⟩ : ∃ L, L = nuL [a + b] := ⟨_, rfl⟩
  rw [← hL0e] at hL0 hM0
  have hL0 : LS 64 34 38 S.hd w2 g V L0 (k0 a b) := hL0
  have hMq : ∀ k, Mine g V L0 k → q0 < k := fun k hk => by have := hM0 k hk; omega
  have hbond := bond_any hL0 (k0_U a b HB.out.1 HB.out.2) 0 b ⟨HB.out.2.1, by have := HB.out.2.2; omega⟩
  rw [k0_bond a b HB.out.1 HB.out.2] at hbond
  have HF := Lib.hid (⟨hqw, kq2, hC02, hMq⟩ : _ ∧ _ ∧ _ ∧ _)
  clear hq0 hC1 kq hqw hsu hN hL0 hC2 hM0 kq2 hC02 hqs hMq hL0e
  go_wp2_with fail
  refine hbond.mono ?_
  rintro e w3 ⟨rfl, hS⟩
  obtain ⟨hqw, kq2, hC02, hMq⟩ := HF.out
  have kq3 := hS.other (fun h => by have := hMq q0 h; omega) kq2
  obtain ⟨L1, hL1, hlen1, hC3, hM1⟩ := hS
  have hC03 := hC02.trans hC3 (fun k hk e => by have := hMq k e; omega)
  have hMq1 : ∀ k, Mine g V L1 k → q0 < k := fun k hk => by
    rcases hM1 k hk with e | e
    · exact hMq k e
    · have := heap_lt kq2; omega
  have hL1' := hL1
  have hunb := unbond_any hL1 (k1_U a b HB.out.1 HB.out.2) 0 b era ⟨HB.out.2.1, by have := HB.out.2.2; omega⟩ (by show (0:Nat) ≤ 900; omega) (fun i j h1 h2 => absurd h2 (by show ¬ j < 0; omega))
  rw [k1_unbond a b era HB.out.1 HB.out.2 hb0] at hunb
  have HF1 := Lib.hid (⟨hqw, kq3, hC03, hMq1⟩ : _ ∧ _ ∧ _ ∧ _)
  clear hqw kq2 hC02 hMq kq3 hL1 hlen1 hC3 hM1 hC03 hMq1 hbond HF hL1'
  go_wp2_with fail
  refine hunb.mono ?_
  rintro e w4 ⟨rfl, hS⟩
  obtain ⟨hqw, kq3, hC03, hMq⟩ := HF1.out
  have kq4 := hS.other (fun h => by have := hMq q0 h; omega) kq3
  obtain ⟨L2, hL2, hlen2, hC4, hM2⟩ := hS
  have hC04 := hC03.trans hC4 (fun k hk e => by have := hMq k e; omega)
  have hMq2 : ∀ k, Mine g V L2 k → q0 < k := fun k hk => by
    rcases hM2 k hk with e | e
    · exact hMq k e
    · have := heap_lt kq3; omega
  have r0' := cell_of kq4 0 rfl
  have f0' := frozen_of kq4 0
  have hcs : Chg (fun k => k = q0) w4 (w4.setCell ⟨q0, 0, none⟩ (.int .u64 0)) := Chg.setCell (F := fun k => k = q0) (p := ⟨q0, 0, none⟩) (Chg.refl _ w4) (fun _ => rfl) _
  have hC05 : Chg (fun _ => False) w (w4.setCell ⟨q0, 0, none⟩ (.int .u64 0)) := hC04.trans hcs (fun k hk e => by omega)
  have hL2' : LS 64 34 38 S.hd (w4.setCell ⟨q0, 0, none⟩ (.int .u64 0)) g V L2 (k2 a b era) := ⟨hL2.at_.chg hcs (fun k hk e => by have := hMq2 k hk; omega), hL2.acc⟩
  obtain ⟨W5, hW5⟩ : ∃ W5, W5 = w4.setCell ⟨q0, 0, none⟩ (.int .u64 0) := ⟨_, rfl⟩
  rw [← hW5] at hC05 hL2'
  have hac := account_any hL2' 0 (by show (1:Nat) ≤ 1000; omega)
  unfold AccPost at hac
  rw [show (k2 a b era).acc.getD (Int.toNat 0) a0 = ⟨a, 0, 0, [(b, era)]⟩ from rfl] at hac
  simp only [if_neg (show ¬ (k2 a b era).bad 0 by simp [S.bad, k2]), List.length_cons, List.length_nil, Nat.zero_add] at hac
  have HF2 := Lib.hid (⟨hqw, hC05, hMq2, hL2'⟩ : _ ∧ _ ∧ _ ∧ _)
  have HW5 := Lib.hid hW5
  clear hqw kq3 hC03 hMq kq4 hL2 hlen2 hC4 hM2 hC04 hMq2 hunb HF1 hcs hC05 hL2' hW5
  go_wp2_with fail
  rw [← HW5.out]
  refine hac.mono ?_
  rintro e w6 ⟨A6, c6, rfl, hN6⟩
  obtain ⟨hqw, hC05, hMq, hL⟩ := HF2.out
  obtain ⟨hO6, hC6, hx6⟩ := hN6
  obtain ⟨bx, cx, e6, ex, _⟩ := ownF_cells hO6 (k := 0) (by simp)
  simp only [Value.slice.injEq, List.length_cons, List.length_nil, Nat.zero_add] at e6
  obtain ⟨rfl, -, rfl⟩ := e6
  have hbx : W5.heap.size ≤ bx := hx6 bx rfl
  have hC6a : Chg (fun _ => False) W5 (w6.alloc (.cells #[.int .u64 a, .int .u64 0, .int .u64 0, .slice (some ⟨bx, 0, none⟩) 1 c6] 34)) := hC6.alloc _
  have hO6a := hO6.chg ((Chg.refl (fun _ => False) w6).alloc (.cells #[.int .u64 a, .int .u64 0, .int .u64 0, .slice (some ⟨bx, 0, none⟩) 1 c6] 34)) (fun _ _ => id)
  obtain ⟨_, _, _, ex, _, x0, x1, f0, f1⟩ := ownF_cells hO6a (k := 0) (by simp)
  obtain rfl : bx = _ := by simpa [Value.ownBlock] using ex
  have kx : (w6.alloc (.cells #[.int .u64 a, .int .u64 0, .int .u64 0, .slice (some ⟨bx, 0, none⟩) 1 c6] 34)).heap[w6.heap.size]? = some (.cells #[.int .u64 a, .int .u64 0, .int .u64 0, .slice (some ⟨bx, 0, none⟩) 1 c6] 34 (0, 0)) := heap_alloc_at _ _
  have hMs : ∀ k, Mine g V L2 k → k < W5.heap.size := fun k hk => hL.at_.mine_lt hk
  simp only [Nat.zero_mul] at x0 f0
  have HF3 := Lib.hid (⟨hqw, hC05, hMq, hL, hC6a, hbx, hMs, hC6, kx⟩ : _ ∧ _ ∧ _ ∧ _ ∧ _ ∧ _ ∧ _ ∧ _ ∧ _)
  clear hqw hC05 hMq hL hO6 hC6 hx6 hbx hC6a hO6a kx hMs HF2 x1 f1 hac ex
  go_wp2_with fail
  obtain ⟨hqw, hC05, hMq, hL, hC6a, hbx, hMs, hC6, kx⟩ := HF3.out
  obtain ⟨W6, hW6⟩ : ∃ W6, W6 = w6.alloc (.cells #[.int .u64 a, .int .u64 0, .int .u64 0, .slice (some ⟨bx, 0, none⟩) 1 c6] 34) := ⟨_, rfl⟩
  rw [← hW6] at hC6a x0 f0 ⊢
  have hcs : Chg (fun k => k = bx) W6 (W6.setCell ⟨bx, 0, none⟩ (.int .u64 0)) := Chg.setCell (F := fun k => k = bx) (p := ⟨bx, 0, none⟩) (Chg.refl _ W6) (fun _ => rfl) _
  have hC57 : Chg (fun _ => False) W5 (W6.setCell ⟨bx, 0, none⟩ (.int .u64 0)) := hC6a.trans hcs (fun k hk e => by omega)
  obtain ⟨W7, hW7⟩ : ∃ W7, W7 = W6.setCell ⟨bx, 0, none⟩ (.int .u64 0) := ⟨_, rfl⟩
  rw [← hW7] at hC57 ⊢
  have hL7 := hL.keep hC57
  have hac := account_any hL7 0 (by show (1:Nat) ≤ 1000; omega)
  unfold AccPost at hac
  rw [show (k2 a b era).acc.getD (Int.toNat 0) a0 = ⟨a, 0, 0, [(b, era)]⟩ from rfl] at hac
  simp only [if_neg (show ¬ (k2 a b era).bad 0 by simp [S.bad, k2]), List.length_cons, List.length_nil, Nat.zero_add] at hac
  have HF4 := Lib.hid (⟨hC05.trans hC57 (fun _ _ h => h), hMs, hL7, hC57.size⟩ : _ ∧ _ ∧ _ ∧ _)
  have HMW : Hid (∀ k, Mine g V L2 k → w.heap.size ≤ k) := Lib.hid (fun k hk => by have := hMq k hk; omega)
  clear hqw hC05 hMq hL hC6a hbx hMs hC6 kx hcs hC57 hL7 HF3 x0 f0
  refine hac.mono ?_
  rintro e w8 ⟨A8, c8, rfl, hN8⟩
  obtain ⟨hC07, hMs, hL7, hsz⟩ := HF4.out
  obtain ⟨hO8, hC8, hx8⟩ := hN8
  obtain ⟨by_, cy, e8, ey, _⟩ := ownF_cells hO8 (k := 0) (by simp)
  simp only [Value.slice.injEq, List.length_cons, List.length_nil, Nat.zero_add] at e8
  obtain ⟨rfl, -, rfl⟩ := e8
  have hby : W7.heap.size ≤ by_ := hx8 by_ rfl
  have hC8a : Chg (fun _ => False) W7 (w8.alloc (.cells #[.int .u64 a, .int .u64 0, .int .u64 0, .slice (some ⟨by_, 0, none⟩) 1 c8] 34)) := hC8.alloc _
  have hO8a := hO8.chg ((Chg.refl (fun _ => False) w8).alloc (.cells #[.int .u64 a, .int .u64 0, .int .u64 0, .slice (some ⟨by_, 0, none⟩) 1 c8] 34)) (fun _ _ => id)
  have ky : (w8.alloc (.cells #[.int .u64 a, .int .u64 0, .int .u64 0, .slice (some ⟨by_, 0, none⟩) 1 c8] 34)).heap[w8.heap.size]? = some (.cells #[.int .u64 a, .int .u64 0, .int .u64 0, .slice (some ⟨by_, 0, none⟩) 1 c8] 34 (0, 0)) := heap_alloc_at _ _
  obtain ⟨yq, hyq⟩ : ∃ y, y = w8.heap.size := ⟨_, rfl⟩
  have hyw : W7.heap.size ≤ yq := by have := hC8.size; omega
  have hL9 := hL7.keep hC8a
  have hwd := withdraw_any hL9 0 era (by show (1:Nat) ≤ 1000; omega)
  rw [(k2_withdraw a b era HB.out.1 HB.out.2).1] at hwd
  obtain ⟨W9, hW9⟩ : ∃ W9, W9 = w8.alloc (.cells #[.int .u64 a, .int .u64 0, .int .u64 0, .slice (some ⟨by_, 0, none⟩) 1 c8] 34) := ⟨_, rfl⟩
  rw [← hW9, ← hyq] at ky
  rw [← hW9] at hC8a hO8a hwd
  have HF5 := Lib.hid (⟨hC07.trans hC8a (fun _ _ h => h), hMs, hsz, hO8a, ky, hby, hyw⟩ : _ ∧ _ ∧ _ ∧ _ ∧ _ ∧ _ ∧ _)
  have HW9 := Lib.hid (⟨hW9, hyq⟩ : _ ∧ _)
  clear hC07 hMs hL7 hsz hO8 hC8 hx8 hby hC8a hO8a ky hyq hyw hL9 hW9 hac HF4 ey
  go_wp2_with fail
  rw [← HW9.out.1, ← HW9.out.2]
  refine hwd.mono ?_
  rintro e w10 ⟨rfl, hS⟩
  obtain ⟨hC09, hMs, hsz, hO9, ky, hby, hyw⟩ := HF5.out
  have ky10 := hS.other (fun h => by have := hMs _ h; omega) ky
  obtain ⟨L3, hL3, hlen3, hC10, hM3⟩ := hS
  have hO10 := hO9.chg hC10 (fun k hk h => by have := hMs _ h; simp [Value.ownBlock] at hk; omega)
  obtain ⟨_, _, _, ey, _, y0, y1, _, _⟩ := ownF_cells hO10 (k := 0) (by simp)
  obtain rfl : by_ = _ := by simpa [Value.ownBlock] using ey
  obtain ⟨z0, z1, z2, z3⟩ := read4 ky10
  simp only [Nat.zero_mul] at y0
  have hy0 : w10.cell? ⟨by_, 0, none⟩ = some (.int .u64 b) := y0
  have his := iss_any hL3
  rw [(k2_withdraw a b era HB.out.1 HB.out.2).2] at his
  have HF6 := Lib.hid (hC09.trans hC10 (G := Mine g V L2) (fun k hk e => by have := HMW.out _ e; omega))
  clear hC09 hMs hsz hO9 ky hby hyw ky10 hL3 hlen3 hC10 hM3 hO10 ey y0 y1 HF5 hwd z0 z1 z2
  go_wp2_with fail
  refine his.mono ?_
  rintro e w11 ⟨rfl, rfl⟩
  clear his
  go_wp2
  go_ret
  exact ⟨rfl, HF6.out.below (fun k hk => ⟨hk, id⟩)⟩
end Go.Proofs.Ytpndkelbchjkiaa
