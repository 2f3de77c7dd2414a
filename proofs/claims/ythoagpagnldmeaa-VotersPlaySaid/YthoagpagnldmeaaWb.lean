/- Voters: the first ones. -/
import Derived.Test.YthoagpagnldmeaaWa
set_option linter.unusedVariables false
set_option linter.unusedSimpArgs false
namespace Go.Proofs.Ythoagpagnldmeaa.V
open Go.RowKit Go.Ps
attribute [local go_sem] Oper.semAt_some
theorem layA : Lay (fun (x : Int × Int) => fi x.1) 1 := ⟨fun x => rfl, fun x u hu => by simp [fi] at hu; subst hu; rfl, by omega⟩
theorem OwnF.mapped {α β : Type} {W : World} {e : TypeId} {sz : Nat} {f : β → List Value} {h : α → β} {v : Value} {l : List α} (ho : OwnF W e sz (fun x => f (h x)) v l) : OwnF W e sz f v (l.map h) := by
  unfold OwnF at ho ⊢
  rw [List.length_map, List.flatMap_map]
  exact ho
section
variable {w : World} {g bm : Nat} {tv rv : Value} {T : List Int} {rows : List (List Vo)} {N : Int} {col : Nat → Nat}
set_option maxRecDepth 100000 in
set_option maxHeartbeats 4000000 in
theorem take_list (z : Int) (hv : VM w g bm tv rv T rows N col) (hrl : ∀ l ∈ rows, l.length ≤ 1000) (hL : (allOf rows).length ≤ 1000) : Calls Try.prog 51 #[.pointer (some ⟨g, 0, none⟩), .int .i64 z] w (ListPost 3 1 fi (((allOf rows).map (·.1)).take z.toNat) w) := by
  obtain ⟨n0, hn0⟩ : ∃ n0, n0 = w.heap.size := ⟨_, rfl⟩
  obtain ⟨W0, hW0⟩ : ∃ W0, W0 = w.alloc (.cells #[.int .i64 z] 3) := ⟨_, rfl⟩
  obtain ⟨W1, hW1⟩ : ∃ W1, W1 = W0.alloc (.cells #[.slice none 0 0] 82) := ⟨_, rfl⟩
  obtain ⟨W2, hW2⟩ : ∃ W2, W2 = W1.alloc (.cells #[.pointer (some ⟨g, 0, none⟩)] 64) := ⟨_, rfl⟩
  have hs0 : W0.heap.size = n0 + 1 := by rw [hW0, hn0]; simp
  have hs1 : W1.heap.size = n0 + 2 := by rw [hW1]; simp [hs0]
  have hs2 : W2.heap.size = n0 + 3 := by rw [hW2]; simp [hs1]
  have hz0 : W0.heap[n0]? = some (.cells #[.int .i64 z] 3 (0, 0)) := by rw [hW0, hn0]; exact heap_alloc_at _ _
  have hB1 : W2.heap[n0 + 2]? = some (.cells #[.pointer (some ⟨g, 0, none⟩)] 64 (0, 0)) := by rw [hW2, ← hs1]; exact heap_alloc_at _ _
  have hB0 : W2.heap[n0 + 1]? = some (.cells #[.slice none 0 0] 82 (0, 0)) := by rw [hW2, hW1, ← hs0]; exact heap_alloc_ne (heap_alloc_at _ _)
  have hC0 : Chg (fun _ => False) w W0 := by rw [hW0]; exact (Chg.refl _ w).alloc _
  have hC2 : Chg (fun _ => False) w W2 := by rw [hW2, hW1]; exact (hC0.alloc _).alloc _
  have hbl : Below W0.heap.size W0 W2 := by rw [hW2, hW1]; exact ((Below.refl _ W0).alloc (Nat.le_refl _) _).alloc (by simp) _
  have hv2 := hv.keep hC2 (fun _ _ f => f.elim)
  have hcl : ∀ k, col k ≠ 0 → k < n0 := fun k hk => by rw [hn0]; exact hv.top hk
  obtain ⟨hlv, hbx⟩ := live_nil hB0
  have hcoll : Coll 82 3 1 (fun x : Int × Int => fi x.1) (n0 + 1) W0 [] W2 := ⟨_, hB0, OwnF.nil _ _ _ _, (fun k hk => by cases hk), hbl, by omega⟩
  have hst := all_seq (n := 9 - 1) (n₀ := n0) (M := W2.heap.size + 2) (B := n0 + 1) (cb := n0 + 2) (by omega) hB1 hv2 hrl hcl (by omega) hlv (fun k hk hb => by
    have := hbx k hb
    rcases hk with rfl | hk
    · omega
    · have := hcl k hk; omega)
  have HH := Lib.hid (⟨hn0, hs0, hs2, hz0, hC0, hcoll, hlv, hL⟩ : _ ∧ _ ∧ _ ∧ _ ∧ _ ∧ _ ∧ _ ∧ _)
  have HST := Lib.hid hst
  have HW0 := Lib.hid hW0
  have HW1 := Lib.hid hW1
  have HW2 := Lib.hid hW2
  clear hn0 hW0 hW1 hW2 hs0 hs1 hs2 hB1 hB0 hC0 hC2 hbl hv2 hcl hlv hbx hcoll hst hv hrl hL hz0
  refine (callsIn_wide (n := 9)).1 ?_
  refine callsIn_of_wp_marks Try.func51 rfl trivial ?_ rfl
  simp only [Try.ntmps51, List.size_toArray, List.length_cons, List.length_nil, Nat.reduceAdd, Nat.reduceSub, Array.replicate_succ, Array.replicate_zero, List.push_toArray, List.append_toArray, List.nil_append, List.cons_append]
  gi_wp2_with fail
  refine ⟨trivial, (callsIn_wide.2 (all79 _ _)).mono ?_⟩
  rintro e w' ⟨rfl, rfl⟩
  gi_wp2_with fail
  rw [← HW0.out, ← HW1.out, ← HW2.out, ← HH.out.1]
  have HC := HH
  refine wpIn_rangeFunc_o rfl (by omega) (gf := 89) (lb := #[.pointer (some ⟨n0 + 2, 0, none⟩)]) rfl trivial (enters_of Try.func89 (by kernel_rfl) rfl)
    HST.out (fun h k => Kp.trans h k) (fun V l o o' h1 h2 h3 h4 => by
      obtain ⟨hn0, hs0, hs2, hz0, hC0, hcoll, hlv, hL⟩ := HH.out
      exact kp_b (n₀ := n0) (m := W2.heap.size) (by omega) (by omega) hlv.1 V l o o' h1 h2 h3 h4) (Below.refl _ _) (fun _ => rfl)
    (fun _ _ _ _ _ _ _ _ _ _ => trivial) (fun pre W => Coll 82 3 1 (fun x : Int × Int => fi x.1) (n0 + 1) W0 pre W ∧ pre.length ≤ z.toNat) (fun c pre W => c = .exit 0 ∧ ∃ p x, pre = p ++ [x] ∧ z.toNat ≤ p.length ∧ p.length ≤ z.toNat ∧ Coll 82 3 1 (fun x : Int × Int => fi x.1) (n0 + 1) W0 p W)
    (fun s A A' row h hg hr => ⟨Coll.ownFrom (by have := HH.out; omega) s A A' row h.1 hg hr, h.2⟩) ?hIx ⟨HH.out.2.2.2.2.2.1, by simp⟩ ?a1 ?assign ?body ?done ?stop
  case hIx =>
    rintro c s A A' row ⟨h1, p, x, h2, h3, h4, h5⟩ hg hr
    exact ⟨h1, p, x, h2, h3, h4, Coll.ownFrom (Bl := W2.heap.size) (by have := HH.out; omega) p A A' row h5 hg hr⟩
  case assign =>
    intro l x W K hK
    simp only [encA]
    gi_wp2
    exact hK
  case body =>
    rintro l pre x W ⟨hc, hpl⟩ hlt _
    obtain ⟨hn0, hs0, hs2, hz0, hC0, -, hlv, hL⟩ := HH.out
    have hz1 : W.heap[n0]? = some (.cells #[.int .i64 z] 3 (0, 0)) := by
      obtain ⟨_, _, _, _, hbl, _⟩ := hc
      exact (hbl.block n0 (by omega)).trans hz0
    have q0 := cell_of hz1 0 rfl
    obtain ⟨A, m, c, A', c', w2, hm, hb, hrun, hb2, hb3, hko, hkp, hc3⟩ := hc.push n0 layA Try.underlying82 info3 rfl x (by omega) (by omega)
    have hle : (m : Int) + 1 ≤ 1000 := by omega
    have r0 := cell_of hb 0 rfl
    by_cases hzm : z ≤ m
    · have HF := Lib.hid (show KeepsFrom W2.heap.size W W ∧ ∃ p y, pre ++ [x] = p ++ [y] ∧ z.toNat ≤ p.length ∧ p.length ≤ z.toNat ∧ Coll 82 3 1 (fun x : Int × Int => fi x.1) (n0 + 1) W0 p W from ⟨KeepsFrom.refl _ _, pre, x, rfl, by omega, hpl, hc⟩)
      clear hc hlt hm hb hb2 hb3 hko hkp hc3 hL hn0 hs0 hs2 hz0 hC0 hlv hpl hz1 hrun hle
      gi_wp2
      exact ⟨HF.out.1, rfl, HF.out.2⟩
    · have hzm2 : ¬ z ≤ m := hzm
      have r1 := cell_of hb2 0 rfl
      have r2 := frz hb2
      have r3 := cell_of hb3 0 rfl
      have HF := Lib.hid (show KeepsFrom W2.heap.size W _ ∧ Kp n0 (W2.heap.size + 2) (n0 + 1) W _ ∧ Coll 82 3 1 (fun x : Int × Int => fi x.1) (n0 + 1) W0 (pre ++ [x]) _ ∧ (pre ++ [x]).length ≤ z.toNat from ⟨hko.from _, kp_of_coll hc3 hko hkp, hc3, by rw [List.length_append, List.length_singleton]; omega⟩)
      clear hc hlt hm hb hb2 hb3 hko hkp hc3 hL hn0 hs0 hs2 hz0 hC0 hlv hpl hz1 hle
      simp only [fi] at hrun
      gi_wp2_with (gi_at_builtin; refine wpListIn_append_run rfl _ _ 82 rfl _ _ _ _ rfl rfl hrun ?_)
      exact HF.out
  case done =>
    rintro D ys W hD rfl ⟨hC, hl⟩ hK
    obtain ⟨v, hb, ho, hf, hcg⟩ := hC.close hK (by have := HH.out; omega) (.deferred none)
    have r0 := cell_of hb 0 rfl
    have hpost : ListPost 3 1 fi (((allOf rows).map (·.1)).take z.toNat) w (.returned v) (W.putObj D (.deferred none)) := by
      obtain ⟨hn0, hs0, hs2, hz0, hC0, -, hlv, hL⟩ := HH.out
      refine ⟨v, rfl, ?_, fun k hk => by have := hf k hk; omega, hC0.trans hcg (fun _ _ f => f.elim)⟩
      rw [List.take_of_length_le (by simpa using hl)]
      exact OwnF.mapped ho
    have HF := Lib.hid hpost
    clear hC hb ho hf hcg hpost hl
    gi_wp2
    refine ⟨by simp, .inl ⟨_, _, rfl, run_takeDeferred hK, ?_⟩⟩
    exact ⟨_, results_tmp rfl _ _ _, by exact HF.out⟩
  case stop =>
    rintro D c pre W hD hpre ⟨rfl, p, x, rfl, h1, h2, hC⟩ hK
    obtain ⟨v, hb, ho, hf, hcg⟩ := hC.close hK (by have := HH.out; omega) (.deferred none)
    have r0 := cell_of hb 0 rfl
    have hpost : ListPost 3 1 fi (((allOf rows).map (·.1)).take z.toNat) w (.returned v) (W.putObj D (.deferred none)) := by
      obtain ⟨hn0, hs0, hs2, hz0, hC0, -, hlv, hL⟩ := HH.out
      refine ⟨v, rfl, ?_, fun k hk => by have := hf k hk; omega, hC0.trans hcg (fun _ _ f => f.elim)⟩
      obtain ⟨t, ht⟩ := hpre
      have : ((allOf rows).map (·.1)).take z.toNat = p.map (·.1) := by
        rw [← ht, List.append_assoc, List.map_append, List.take_append_of_le_length (by simp; omega), List.take_of_length_le (by simp; omega)]
      rw [this]
      exact OwnF.mapped ho
    have HF := Lib.hid hpost
    clear hC hb ho hf hcg hpost h1 h2 hpre
    gi_wp2
    refine ⟨by simp, .inl ⟨_, _, rfl, run_takeDeferred hK, ?_⟩⟩
    exact ⟨_, results_tmp rfl _ _ _, by exact HF.out⟩
end
end Go.Proofs.Ythoagpagnldmeaa.V
