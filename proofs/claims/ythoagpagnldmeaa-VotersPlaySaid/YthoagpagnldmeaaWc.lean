/- Voters: some of them. -/
import Derived.Test.YthoagpagnldmeaaWa
import Derived.Test.YthoagpagnldmeaaCr
set_option linter.unusedVariables false
set_option linter.unusedSimpArgs false
namespace Go.Proofs.Ythoagpagnldmeaa.V
open Go.RowKit Go.Ps
attribute [local go_sem] Oper.semAt_some
theorem kp_of_kept {n₀ M B : Nat} {W W' : World} (hk : KeepsOthers W W') (hp : Kept n₀ B W W') (hb : ∀ k, Box B W' k → k < W'.heap.size) : Kp n₀ M B W W' := by
  refine ⟨hp.size, fun k o h1 h2 h3 => hp.same k o h1 (fun ho => h3 ho.2) (.inl h2), fun k o h1 h2 _ => hk.same k o h1 h2, fun k hbx => ?_⟩
  have hlt := hb k hbx
  rcases hp.own k ⟨hlt, hbx⟩ with h1 | h1
  · exact .inl h1.2
  · exact .inr ⟨h1, hlt⟩
section
variable {w : World} {g bm : Nat} {tv rv : Value} {T : List Int} {rows : List (List Vo)} {N' : Int} {col : Nat → Nat}
set_option maxRecDepth 100000 in
set_option maxHeartbeats 4000000 in
theorem some_v {N : Int} (hv : VM w g bm tv rv T rows N' col) (hrl : ∀ l ∈ rows, l.length ≤ 1000) (hL : (allOf rows).length ≤ 1000) (hN : 0 ≤ N) :
    Calls Try.prog 36 #[.pointer (some ⟨g, 0, none⟩), .int .i64 N] w fun e w' => e = .returned (.int .i64 (min N (allOf rows).length)) ∧ Chg (fun _ => False) w w' := by
  obtain ⟨n0, hn0⟩ : ∃ n0, n0 = w.heap.size := ⟨_, rfl⟩
  have e0 := heap_alloc_at w (.cells #[.int .i64 N] 3)
  have e1 := heap_alloc_at (w.alloc (.cells #[.int .i64 N] 3)) (.cells #[.int .i64 0] 3)
  have e2 := heap_alloc_at ((w.alloc (.cells #[.int .i64 N] 3)).alloc (.cells #[.int .i64 0] 3)) (.cells #[.int .i64 0] 3)
  simp only [World.size_alloc, ← hn0] at e0 e1 e2
  obtain ⟨W1, hW1⟩ : ∃ W1, W1 = ((w.alloc (.cells #[.int .i64 N] 3)).alloc (.cells #[.int .i64 0] 3)).alloc (.cells #[.int .i64 0] 3) := ⟨_, rfl⟩
  have a0 : W1.heap[n0]? = some (.cells #[.int .i64 N] 3 (0, 0)) := by rw [hW1]; exact heap_alloc_ne (heap_alloc_ne e0)
  have a1 : W1.heap[n0 + 1]? = some (.cells #[.int .i64 0] 3 (0, 0)) := by rw [hW1]; exact heap_alloc_ne e1
  have a2 : W1.heap[n0 + 2]? = some (.cells #[.int .i64 0] 3 (0, 0)) := by rw [hW1]; exact e2
  have hb1 : Below w.heap.size w W1 := by rw [hW1]; exact (((Below.refl _ w).alloc (Nat.le_refl _) _).alloc (by simp) _).alloc (by simp; omega) _
  have hs1 : W1.heap.size = n0 + 3 := by rw [hW1, hn0]; simp
  obtain ⟨W2, hW2⟩ : ∃ W2, W2 = W1.alloc (.cells #[.pointer (some ⟨g, 0, none⟩)] 64) := ⟨_, rfl⟩
  have c0 : W2.heap[n0]? = some (.cells #[.int .i64 N] 3 (0, 0)) := by rw [hW2]; exact heap_alloc_ne a0
  have c1 : W2.heap[n0 + 1]? = some (.cells #[.int .i64 0] 3 (0, 0)) := by rw [hW2]; exact heap_alloc_ne a1
  have c2 : W2.heap[n0 + 2]? = some (.cells #[.int .i64 0] 3 (0, 0)) := by rw [hW2]; exact heap_alloc_ne a2
  have c3 : W2.heap[n0 + 3]? = some (.cells #[.pointer (some ⟨g, 0, none⟩)] 64 (0, 0)) := by
    rw [hW2]
    have := heap_alloc_at W1 (.cells #[.pointer (some ⟨g, 0, none⟩)] 64)
    rwa [hs1] at this
  have hbl : Below w.heap.size w W2 := by rw [hW2]; exact hb1.alloc (by omega) _
  have hsz : W2.heap.size = n0 + 4 := by rw [hW2]; simp [hs1]
  have hv2 := hv.keep (F := fun _ => False) (Chg.ofBelow hbl) (fun _ _ f => f.elim)
  have hcl : ∀ k, col k ≠ 0 → k < n0 := fun k hk => by rw [hn0]; exact hv.top hk
  have hbx : ∀ k, Box (n0 + 2) W2 k → k = n0 + 2 := by
    rintro k (rfl | ⟨v, h2, h3⟩)
    · rfl
    · rw [cell_of c2 0 rfl] at h2
      cases h2
      cases h3
  have hlv : Live (n0 + 2) W2 := ⟨by omega, fun k hk => by rw [hbx k hk]; omega⟩
  have hst := all_seq (n := 9 - 1) (n₀ := n0) (M := W2.heap.size + 2) (B := n0 + 2) (cb := n0 + 3) (by omega) c3 hv2 hrl hcl (by omega) hlv (fun k hk hb => by
    have := hbx k hb
    rcases hk with rfl | hk
    · omega
    · have := hcl k hk; omega)
  have hI : SomeI n0 w N [] W2 := ⟨c0, c1, c2, hbl, hN⟩
  have HH := Lib.hid (⟨hL, hsz, hI, hN, hn0, hlv⟩ : _ ∧ _ ∧ _ ∧ _ ∧ _ ∧ _)
  have HST := Lib.hid hst
  have HW1 := Lib.hid hW1
  have HW2 := Lib.hid hW2
  have HN0 := Lib.hid hn0
  have HA := Lib.hid a2
  clear hL e0 e1 e2 a0 a1 a2 c0 c1 c2 c3 hb1 hs1 hbl hsz hst hI hn0 hW1 hW2 hN hv hv2 hcl hbx hlv hrl
  refine (callsIn_wide (n := 9)).1 ?_
  refine callsIn_of_wp_marks Try.func36 rfl trivial ?_ rfl
  simp only [Try.ntmps36, List.size_toArray, List.length_cons, List.length_nil, Nat.reduceAdd, Nat.reduceSub, Array.replicate_succ, Array.replicate_zero, List.push_toArray, List.append_toArray, List.nil_append, List.cons_append]
  gi_wp2_with fail
  refine ⟨trivial, (callsIn_wide.2 (all79 _ _)).mono ?_⟩
  rintro e w' ⟨rfl, rfl⟩
  gi_wp2_with fail
  rw [← HW1.out, ← HW2.out, ← HN0.out]
  refine wpIn_rangeFunc_o rfl (by omega) (gf := 89) (lb := #[.pointer (some ⟨n0 + 3, 0, none⟩)]) rfl trivial (enters_of Try.func89 (by kernel_rfl) rfl)
    HST.out (fun h k => Kp.trans h k) (fun V l o o' h1 h2 h3 h4 => by
      obtain ⟨hL, hsz, hI, hN, hn0, hlv⟩ := HH.out
      exact kp_b (n₀ := n0) (m := W2.heap.size) (by omega) (by omega) hlv.1 V l o o' h1 h2 h3 h4) (Below.refl _ _) (fun _ => rfl)
    (fun _ _ _ _ _ _ _ _ _ _ => trivial) (SomeI n0 w N) (SomeX n0 w N) (SomeI.from (by have := HH.out; omega)) (SomeX.from (by have := HH.out; omega)) HH.out.2.2.1
    ?a1 ?assign ?body ?done ?stop
  case assign =>
    intro l x W K hK
    simp only [encA]
    gi_wp2
    exact hK
  case body =>
    rintro l pre x W ⟨h0, h1, h2, hb, hle⟩ hlt _
    obtain ⟨hL, hsz, hI, hN, hn0, hlv⟩ := HH.out
    have r0 := cell_of h0 0 rfl
    have r1 := cell_of h1 0 rfl
    have r2 := cell_of h2 0 rfl
    have r3 := frz h1
    have r4 := frz h2
    have hw : wrap64 ((pre.length : Int) + 1) = ((pre ++ [x]).length : Int) := by unfold wrap64; simp; omega
    have HW := Lib.hid hw
    have q1 : KeepsOthers W (W.setCell ⟨n0 + 2, 0, none⟩ (.int .i64 ((pre ++ [x]).length : Int))) := KeepsOthers.setCell _ _ _
    have q2 : Kept n0 (n0 + 2) W (W.setCell ⟨n0 + 2, 0, none⟩ (.int .i64 ((pre ++ [x]).length : Int))) := kept_set h2 rfl
    have q3 : (pre.length : Int) ≠ N → SomeI n0 w N (pre ++ [x]) (W.setCell ⟨n0 + 2, 0, none⟩ (.int .i64 ((pre ++ [x]).length : Int))) := fun hne =>
      ⟨by rw [heap_setCell_ne (by omega)]; exact h0, by rw [heap_setCell_ne (by omega)]; exact h1, by rw [heap_setCell h2]; rfl, hb.setCell (p := ⟨n0 + 2, 0, none⟩) (by simp; omega) _, by simp; omega⟩
    have q4 : (pre.length : Int) = N → SomeX n0 w N .ret (pre ++ [x]) (W.setCell ⟨n0 + 1, 0, none⟩ (.int .i64 pre.length)) := fun he =>
      ⟨rfl, by rw [heap_setCell h1]; simp [he], hb.setCell (p := ⟨n0 + 1, 0, none⟩) (by simp; omega) _, by simp; omega⟩
    have q2' : Kp n0 (W2.heap.size + 2) (n0 + 2) W (W.setCell ⟨n0 + 2, 0, none⟩ (.int .i64 ((pre ++ [x]).length : Int))) := kp_of_kept q1 q2 (fun k hk => by
      have h4 : (W.setCell ⟨n0 + 2, 0, none⟩ (.int .i64 ((pre ++ [x]).length : Int))).heap[n0 + 2]? = some (.cells #[.int .i64 ((pre ++ [x]).length : Int)] 3 (0, 0)) := by rw [heap_setCell h2]; rfl
      rcases hk with rfl | ⟨v, h5, h6⟩
      · exact heap_lt h4
      · rw [cell_of h4 0 rfl] at h5; cases h5; cases h6)
    have HF := Lib.hid (⟨q1.from W2.heap.size, q2', q3, q4⟩ : _ ∧ _ ∧ _ ∧ _)
    obtain ⟨m, hm⟩ : ∃ m, m = pre.length := ⟨_, rfl⟩
    rw [← hm] at r2 HW HF
    clear h0 h1 h2 hb hle hlt hL hsz hI hN hn0 hlv hw q1 q2 q2' q3 q4 hm
    gi_wp2
    · rename_i hx
      exact ⟨(KeepsOthers.setCell _ _ _).from _, HF.out.2.2.2 (eq_of_beq hx)⟩
    · rename_i hx
      rw [HW.out]
      exact ⟨HF.out.1, HF.out.2.1, HF.out.2.2.1 (fun e => by simp [e] at hx)⟩
  case done =>
    rintro D ys W hD rfl ⟨h0, h1, h2, hb, hle⟩ hK
    obtain ⟨hL, hsz, hI, hN, hn0, hlv⟩ := HH.out
    have r1 := cell_of h1 0 rfl
    have r2 := cell_of h2 0 rfl
    have r3 := frz h1
    have hK2 : (W.setCell ⟨n0 + 1, 0, none⟩ (.int .i64 (allOf rows).length)).heap[D]? = some (.deferred (some [])) := (KeepsOthers.setCell W ⟨n0 + 1, 0, none⟩ (.int .i64 (allOf rows).length)).same D _ hK rfl
    have hc1 : (W.setCell ⟨n0 + 1, 0, none⟩ (.int .i64 (allOf rows).length)).heap[n0 + 1]? = some (.cells #[.int .i64 (allOf rows).length] 3 (0, 0)) := by rw [heap_setCell h1]; rfl
    have hc2 := cell_of (putObj_cells hK2 (.deferred none) hc1) 0 rfl
    have hfin : Chg (fun _ => False) w ((W.setCell ⟨n0 + 1, 0, none⟩ (.int .i64 (allOf rows).length)).putObj D (.deferred none)) := by
      have hb2 := hb.setCell (p := ⟨n0 + 1, 0, none⟩) (by simp; omega) (.int .i64 (allOf rows).length)
      exact Chg.ofBelow (hb2.grown (grownBy_putObj' _ D (.deferred none)) hb2.size (fun k e => by cases e; omega))
    have hmin : min N ((allOf rows).length : Int) = (allOf rows).length := by omega
    have HF := Lib.hid (⟨hc2, hfin, hmin⟩ : _ ∧ _ ∧ _)
    clear h0 h1 h2 hb hle hL hsz hI hN hn0 hlv hc1 hc2 hfin hmin hK
    gi_wp2
    refine ⟨by simp, .inl ⟨_, _, rfl, run_takeDeferred hK2, ?_⟩⟩
    obtain ⟨hc2, hfin, hmin⟩ := HF.out
    refine ⟨.int .i64 (allOf rows).length, ?_, by rw [hmin], hfin⟩
    simp [results, Try.f36, go_sem, hc2]
  case stop =>
    rintro D c pre W hD hpre ⟨rfl, h1, hb, hle⟩ hK
    obtain ⟨hL, hsz, hI, hN, hn0, hlv⟩ := HH.out
    have hc2 := cell_of (putObj_cells hK (.deferred none) h1) 0 rfl
    have hfin : Chg (fun _ => False) w (W.putObj D (.deferred none)) := Chg.ofBelow (hb.grown (grownBy_putObj' _ D (.deferred none)) hb.size (fun k e => by cases e; omega))
    have hpl := hpre.length_le
    have hmin : min N ((allOf rows).length : Int) = N := by omega
    have HF := Lib.hid (⟨hc2, hfin, hmin⟩ : _ ∧ _ ∧ _)
    clear h1 hb hle hL hsz hI hN hn0 hlv hc2 hfin hmin hpre hpl
    gi_wp2
    refine ⟨by simp, .inl ⟨_, _, rfl, run_takeDeferred hK, ?_⟩⟩
    obtain ⟨hc2, hfin, hmin⟩ := HF.out
    refine ⟨.int .i64 N, ?_, by rw [hmin], hfin⟩
    simp [results, Try.f36, go_sem, hc2]
end
end Go.Proofs.Ythoagpagnldmeaa.V
