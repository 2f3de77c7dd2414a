/- Voters: all of them, in a list. -/
import Derived.Test.YthoagpagnldmeaaVy
import Derived.Test.YthoagpagnldmeaaVz
set_option linter.unusedVariables false
set_option linter.unusedSimpArgs false
namespace Go.Proofs.Ythoagpagnldmeaa.V
open Go.RowKit Go.Ps
attribute [local go_sem] Oper.semAt_some
theorem kp_of_coll {α : Type} {ts te : TypeId} {sz : Nat} {f : α → List Value} {n₀ M B : Nat} {w0 W W' : World} {l : List α} (h : Coll ts te sz f B w0 l W') (hk : KeepsOthers W W') (hp : Kept n₀ B W W') : Kp n₀ M B W W' := by
  refine ⟨hp.size, fun k o h1 h2 h3 => hp.same k o h1 (fun ho => h3 ho.2) (.inl h2), fun k o h1 h2 _ => hk.same k o h1 h2, fun k hb => ?_⟩
  have hlt : k < W'.heap.size := by
    obtain ⟨v, hv, ho, _⟩ := h
    rcases hb with rfl | ⟨u, h2, h3⟩
    · exact heap_lt hv
    · rw [cell_of hv 0 rfl] at h2
      cases h2
      exact ho.lt h3
  rcases hp.own k ⟨hlt, hb⟩ with h1 | h1
  · exact .inl h1.2
  · exact .inr ⟨h1, hlt⟩
theorem live_nil {B : Nat} {W : World} {t : TypeId} (h : W.heap[B]? = some (.cells #[.slice none 0 0] t (0, 0))) : Live B W ∧ ∀ k, Box B W k → k = B := by
  have hb : ∀ k, Box B W k → k = B := by
    rintro k (rfl | ⟨v, h2, h3⟩)
    · rfl
    · rw [cell_of h 0 rfl] at h2
      cases h2
      cases h3
  exact ⟨⟨heap_lt h, fun k hk => by rw [hb k hk]; exact heap_lt h⟩, hb⟩
def fz (x : Int × Int) : List Value := [.int .i64 x.1, .int .u64 x.2, .int .i64 0]
theorem layZ : Lay fz 3 := ⟨fun x => rfl, fun x u hu => by simp [fz] at hu; rcases hu with rfl | rfl | rfl <;> rfl, by omega⟩
theorem info85 : (Try.prog.info? 85).map (fun i => (i.zero, i.size, i.bytes)) = some (some (.agg #[.int .i64 0, .int .u64 0, .int .i64 0]), 3, 24) := by kernel_rfl
theorem under70 : Try.prog.underlying 70 = some (.slice 85) := Try.underlying70
/-- A list of a call's own. -/
def ListPost {α : Type} (te : TypeId) (sz : Nat) (f : α → List Value) (L : List α) (w : World) (e : Ending) (w' : World) : Prop :=
  ∃ v, e = .returned v ∧ OwnF w' te sz f v L ∧ (∀ k, v.ownBlock = some k → w.heap.size ≤ k) ∧ Chg (fun _ => False) w w'
section
variable {w : World} {g bm : Nat} {tv rv : Value} {T : List Int} {rows : List (List Vo)} {N : Int} {col : Nat → Nat}
set_option maxRecDepth 100000 in
set_option maxHeartbeats 4000000 in
theorem all_list (hv : VM w g bm tv rv T rows N col) (hrl : ∀ l ∈ rows, l.length ≤ 1000) (hL : (allOf rows).length ≤ 1000) : Calls Try.prog 55 #[.pointer (some ⟨g, 0, none⟩)] w (ListPost 85 3 fz (allOf rows) w) := by
  obtain ⟨n0, hn0⟩ : ∃ n0, n0 = w.heap.size := ⟨_, rfl⟩
  obtain ⟨W1, hW1⟩ : ∃ W1, W1 = w.alloc (.cells #[.slice none 0 0] 70) := ⟨_, rfl⟩
  obtain ⟨W2, hW2⟩ : ∃ W2, W2 = W1.alloc (.cells #[.pointer (some ⟨g, 0, none⟩)] 64) := ⟨_, rfl⟩
  have hs1 : W1.heap.size = n0 + 1 := by rw [hW1, hn0]; simp
  have hs2 : W2.heap.size = n0 + 2 := by rw [hW2]; simp [hs1]
  have hB1 : W2.heap[n0 + 1]? = some (.cells #[.pointer (some ⟨g, 0, none⟩)] 64 (0, 0)) := by rw [hW2, ← hs1]; exact heap_alloc_at _ _
  have hB0 : W2.heap[n0]? = some (.cells #[.slice none 0 0] 70 (0, 0)) := by rw [hW2, hW1, hn0]; exact heap_alloc_ne (heap_alloc_at _ _)
  have hC2 : Chg (fun _ => False) w W2 := by rw [hW2, hW1]; exact ((Chg.refl _ w).alloc _).alloc _
  have hbl : Below w.heap.size w W2 := by rw [hW2, hW1]; exact ((Below.refl _ w).alloc (Nat.le_refl _) _).alloc (by simp) _
  have hv2 := hv.keep hC2 (fun _ _ f => f.elim)
  have hcl : ∀ k, col k ≠ 0 → k < n0 := fun k hk => by rw [hn0]; exact hv.top hk
  obtain ⟨hlv, hbx⟩ := live_nil hB0
  have hcoll : Coll 70 85 3 fz n0 w [] W2 := ⟨_, hB0, OwnF.nil _ _ _ _, (fun k hk => by cases hk), hbl, by omega⟩
  have hst := all_seq (n := 9 - 1) (n₀ := n0) (M := W2.heap.size + 2) (B := n0) (cb := n0 + 1) (by omega) hB1 hv2 hrl hcl (by omega) hlv (fun k hk hb => by
    have := hbx k hb
    rcases hk with rfl | hk
    · omega
    · have := hcl k hk; omega)
  have HH := Lib.hid (⟨hn0, hs2, hB0, hC2, hcoll, hlv, hL⟩ : _ ∧ _ ∧ _ ∧ _ ∧ _ ∧ _ ∧ _)
  have HST := Lib.hid hst
  have HW1 := Lib.hid hW1
  have HW2 := Lib.hid hW2
  clear hn0 hW1 hW2 hs1 hs2 hB1 hB0 hC2 hbl hv2 hcl hlv hbx hcoll hst hv hrl hL
  refine (callsIn_wide (n := 9)).1 ?_
  refine callsIn_of_wp_marks Try.func55 rfl trivial ?_ rfl
  simp only [Try.ntmps55, List.size_toArray, List.length_cons, List.length_nil, Nat.reduceAdd, Nat.reduceSub, Array.replicate_succ, Array.replicate_zero, List.push_toArray, List.append_toArray, List.nil_append, List.cons_append]
  gi_wp2_with fail
  refine ⟨trivial, (callsIn_wide.2 (all79 _ _)).mono ?_⟩
  rintro e w' ⟨rfl, rfl⟩
  gi_wp2_with fail
  rw [← HW1.out, ← HW2.out, ← HH.out.1]
  refine wpIn_rangeFunc_o rfl (by omega) (gf := 89) (lb := #[.pointer (some ⟨n0 + 1, 0, none⟩)]) rfl trivial (enters_of Try.func89 (by kernel_rfl) rfl)
    HST.out (fun h k => Kp.trans h k) (fun V l o o' h1 h2 h3 h4 => by
      obtain ⟨hn0, hs2, hB0, hC2, hcoll, hlv, hL⟩ := HH.out
      exact kp_b (n₀ := n0) (m := W2.heap.size) (by omega) (by omega) hlv.1 V l o o' h1 h2 h3 h4) (Below.refl _ _) (fun _ => rfl)
    (fun _ _ _ _ _ _ _ _ _ _ => trivial) (fun pre W => Coll 70 85 3 fz n0 w pre W) (fun _ _ _ => False) (Coll.ownFrom (by have := HH.out; omega)) (fun _ _ _ _ _ hs _ _ => hs) HH.out.2.2.2.2.1 ?a1 ?assign ?body ?done ?stop
  case assign =>
    intro l x W K hK
    simp only [encA]
    gi_wp2
    exact hK
  case body =>
    rintro l pre x W hc hlt _
    have hL := HH.out.2.2.2.2.2.2
    obtain ⟨A, m, c, A', c', w2, hm, hb, hrun, hb2, hb3, hko, hkp, hc3⟩ := hc.push n0 layZ Try.underlying70 info85 rfl x (by omega) (by omega)
    have hle : (m : Int) + 1 ≤ 1000 := by omega
    have r0 := cell_of hb 0 rfl
    have r1 := cell_of hb2 0 rfl
    have r2 := frz hb2
    have r3 := cell_of hb3 0 rfl
    have HF := Lib.hid (show KeepsFrom W2.heap.size W _ ∧ Kp n0 (W2.heap.size + 2) n0 W _ ∧ _ from ⟨hko.from _, kp_of_coll hc3 hko hkp, hc3⟩)
    clear hc hlt hm hb hb2 hb3 hko hkp hc3 hL
    simp only [fz] at hrun
    gi_wp2_with (gi_at_builtin; refine wpListIn_append_run rfl _ _ 70 rfl _ _ _ _ rfl rfl hrun ?_)
    exact HF.out
  case done =>
    rintro D ys W hD rfl hC hK
    obtain ⟨v, hb, ho, hf, hcg⟩ := hC.close hK (by have := HH.out; omega) (.deferred none)
    have r0 := cell_of hb 0 rfl
    have HF := Lib.hid (⟨ho, hf, hcg⟩ : _ ∧ _ ∧ _)
    clear hC hb ho hf hcg
    gi_wp2
    refine ⟨by simp, .inl ⟨_, _, rfl, run_takeDeferred hK, ?_⟩⟩
    exact ⟨_, results_tmp rfl _ _ _, v, rfl, HF.out⟩
  case stop =>
    rintro D c pre W _ _ h _
    exact h.elim
end
end Go.Proofs.Ythoagpagnldmeaa.V
