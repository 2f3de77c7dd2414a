/- A chain of numbers: collecting while going through it. -/
import Derived.Test.YthoagpagnldmeaaCi
import Derived.Test.YthoagpagnldmeaaK3
import Derived.RangeFuncNested
import Derived.RangeFuncBound
import Derived.RangeFuncCalls
import Derived.RangeFuncLeaves
import Derived.Shelf.Abstract
import Derived.Shelf.RegionOpen
import Derived.WalkKit
import Derived.OwnWalkIn
import Derived.TacticsInMore
import Derived.LoopNIn
import Derived.LoopIn
set_option linter.unusedVariables false
set_option linter.unusedSimpArgs false
namespace Go.Proofs.Ythoagpagnldmeaa
open Go.RowKit Go.Ps
attribute [local go_sem] Oper.semAt_some
theorem wpListIn_append_run {F : Fence} {n : Nat} {P : Program} {ops : Array Oper} {rest : List Oper} {o : Oper} {a : Act} {w : World} {Q : Exit → Act → World → Prop} (hgd : o.guard = none) (s x : Operand) (t : TypeId)
    (ho : o.op = .call { callee := .builtin .append, args := #[s, x], argTypes := #[t, t] }) (va vb v' : Value) (w' : World) (hs : a.eval s = va) (hx : a.eval x = vb) (hr : (Builtin.append_ #[t, t] o.type #[va, vb]).run P w = .ok v' w')
    (h : wpListIn F n P ops Q rest (a.put o.dst v') w') : wpListIn F n P ops Q (o :: rest) a w := by
  refine wpListIn_plain hgd fun K hK => ?_
  unfold Oper.wpIn
  refine ⟨?_, ?_⟩
  · simp [Oper.about, ho, resolve, Target.leads, Sem.run_pure]
  · rw [Oper.semAt_plain F _ _ (by rw [ho]; intro c hc; cases hc)]
    simp [execOp, ho, resolve, invoke, builtin, hs, hx, hr, Result.andThen]
    exact hK _ _ h
theorem kept_cells {W W' : World} {row : Option Nat} (hg : W.grownBy W' row) (hr : ∀ r, row = some r → ∃ o : Obj, W.heap[r]? = some o ∧ o.isCells = false) {k : Nat} {cs : Array Value} {t : TypeId} {fr : Nat × Nat} (h : W.heap[k]? = some (.cells cs t fr)) : W'.heap[k]? = some (.cells cs t fr) := by
  refine (hg.block k (heap_lt h) (fun e => ?_)).trans h
  obtain ⟨o, h1, h2⟩ := hr k e.symm
  rw [h] at h1
  cases h1
  cases h2
/-- A box in which a row is collected. -/
def Coll {α : Type} (ts te : TypeId) (sz : Nat) (f : α → List Value) (B : Nat) (w0 : World) (pre : List α) (W : World) : Prop :=
  ∃ v, W.heap[B]? = some (.cells #[v] ts (0, 0)) ∧ OwnF W te sz f v pre ∧ (∀ k, v.ownBlock = some k → w0.heap.size ≤ k ∧ k ≠ B) ∧ Below w0.heap.size w0 W ∧ w0.heap.size ≤ B
theorem Coll.ownFrom {α : Type} {ts te : TypeId} {sz : Nat} {f : α → List Value} {B Bl : Nat} {w0 : World} (hBl : w0.heap.size ≤ Bl) : OwnFrom Bl (fun pre W => Coll ts te sz f B w0 pre W) := by
  rintro pre W W' row ⟨v, hb, ho, hk, hbl, hB⟩ hg hr
  refine ⟨v, kept_cells hg (fun r e => (hr r e).2) hb, ?_, hk, hbl.grown hg hbl.size (fun k e => Nat.le_trans hBl (hr k e).1), hB⟩
  refine ⟨ho.1, ?_⟩
  rcases ho.2 with h2 | ⟨g, cap, cur, rfl, hbg, hg2, r⟩
  · exact .inl h2
  · exact .inr ⟨g, cap, cur, rfl, hbg, kept_cells hg (fun r e => (hr r e).2) hg2, r⟩
theorem Coll.push {α : Type} {ts te : TypeId} {sz : Nat} {f : α → List Value} {B : Nat} {w0 W : World} {pre : List α} (n₀ : Nat) (h : Coll ts te sz f B w0 pre W) (hf : Lay f sz) (ht : Try.prog.underlying ts = some (.slice te)) {z : Value} {bytes : Nat} (hinfo : (Try.prog.info? te).map (fun i => (i.zero, i.size, i.bytes)) = some (some z, sz, bytes)) (hzs : z.cells.size = sz) (x : α)
    (hm : ((pre.length + 1) + (pre.length + 1) / 4 + 192) * bytes ≤ 281474976710656) (hby : 1 ≤ bytes) :
    ∃ A L c A' c' w2, L = pre.length ∧ W.heap[B]? = some (.cells #[.slice A L c] ts (0, 0)) ∧
      (Builtin.append_ #[ts, ts] ts #[.slice A L c, .slice (some ⟨W.heap.size, 0, none⟩) 1 1]).run Try.prog (W.alloc (.cells (f x).toArray te)) = .ok (.slice A' (L + 1) c') w2 ∧
      w2.heap[B]? = some (.cells #[.slice A L c] ts (0, 0)) ∧
      (w2.setCell ⟨B, 0, none⟩ (.slice A' (L + 1) c')).heap[B]? = some (.cells #[.slice A' (L + 1) c'] ts (0, 0)) ∧
      KeepsOthers W (w2.setCell ⟨B, 0, none⟩ (.slice A' (L + 1) c')) ∧ Kept n₀ B W (w2.setCell ⟨B, 0, none⟩ (.slice A' (L + 1) c')) ∧ Coll ts te sz f B w0 (pre ++ [x]) (w2.setCell ⟨B, 0, none⟩ (.slice A' (L + 1) c')) := by
  obtain ⟨v, hb, ho, hk, hbl, hB⟩ := h
  obtain ⟨A, c, rfl, hlc, _, hAo, _⟩ := ho.form
  obtain ⟨A', c', w2, hrun, ho2, hg, hat⟩ := ho.append1 (P := Try.prog) hf ts ht hinfo hzs x hm hby
  have hcells : ∀ j o, Value.ownBlock (.slice A pre.length c) = some j → W.heap[j]? = some o → o.isCells = true := by
    intro j o hj hjo
    rcases ho.2 with ⟨hv, _⟩ | ⟨g, cap, cur, hv, hbg, hg2, _⟩
    · rw [hv] at hj; cases hj
    · rw [hv] at hj
      cases hj
      rw [hg2] at hjo
      cases hjo
      rfl
  have hBlt := heap_lt hb
  have hb2 : w2.heap[B]? = some (.cells #[.slice A pre.length c] ts (0, 0)) := (hg.block B hBlt (fun e => (hk B e.symm).2 rfl)).trans hb
  have hneB : ∀ k, Value.ownBlock (.slice A' (pre.length + 1) c') = some k → k ≠ B := fun k hk2 e => by
    rcases hat k hk2 with h1 | h1
    · exact (hk k h1).2 e
    · omega
  refine ⟨A, pre.length, c, A', c', w2, rfl, hb, hrun, hb2, by rw [heap_setCell hb2]; rfl, ?_, ?_, ?_⟩
  · exact (KeepsOthers.of_grownBy hg (fun j o hj hjo => hcells j o hj.symm.symm hjo)).trans (KeepsOthers.setCell _ _ _)
  · refine ⟨by simpa [World.setCell] using hg.size, fun k o hko hno _ => ?_, fun k hko => ?_⟩
    · have hkB : k ≠ B := fun e => hno ⟨heap_lt hko, .inl e⟩
      have hkv : Value.ownBlock (.slice A pre.length c) ≠ some k := fun e => hno ⟨heap_lt hko, .inr ⟨_, cell_of hb 0 rfl, e⟩⟩
      rw [heap_setCell_ne hkB]
      exact (hg.block k (heap_lt hko) (fun e => hkv e.symm)).trans hko
    · obtain ⟨h1, rfl | ⟨u, h2, h3⟩⟩ := hko
      · exact .inl ⟨hBlt, .inl rfl⟩
      · have h4 : (w2.setCell ⟨B, 0, none⟩ (.slice A' (pre.length + 1) c')).heap[B]? = some (.cells #[.slice A' (pre.length + 1) c'] ts (0, 0)) := by rw [heap_setCell hb2]; rfl
        have h5 := cell_of h4 0 rfl
        rw [h5] at h2
        cases h2
        rcases hat k h3 with h6 | h6
        · exact .inl ⟨(World.ownsRow.lt ho k h6).2, .inr ⟨_, cell_of hb 0 rfl, h6⟩⟩
        · exact .inr h6
  · refine ⟨_, by rw [heap_setCell hb2]; rfl, ?_, fun k hk2 => ⟨?_, hneB k hk2⟩, ?_, hB⟩
    · exact ho2.chg (chg1 (F := fun k => k = B) (Chg.refl _ w2) rfl _) (fun k hk2 e => hneB k hk2 e)
    · rcases hat k hk2 with h1 | h1
      · exact (hk k h1).1
      · exact Nat.le_trans hbl.size h1
    · exact (hbl.grown hg hbl.size (fun k e => (hk k e.symm.symm).1)).setCell (p := ⟨B, 0, none⟩) hB _
theorem OwnF.turned {α : Type} {W W' : World} {row : Option Nat} {e : TypeId} {sz : Nat} {f : α → List Value} {v : Value} {l : List α} (ho : OwnF W e sz f v l) (hg : W.grownBy W' row) (hr : ∀ r, row = some r → ∃ o : Obj, W.heap[r]? = some o ∧ o.isCells = false) : OwnF W' e sz f v l := by
  refine ⟨ho.1, ?_⟩
  rcases ho.2 with h2 | ⟨g, cap, cur, rfl, hbg, hg2, r⟩
  · exact .inl h2
  · exact .inr ⟨g, cap, cur, rfl, hbg, kept_cells hg hr hg2, r⟩
/-- Behind the loop: the block for the deferred calls is turned. -/
theorem Coll.close {α : Type} {ts te : TypeId} {sz : Nat} {f : α → List Value} {B D : Nat} {w0 W : World} {l : List α} (h : Coll ts te sz f B w0 l W) {ds : Option (List Deferred)} (hK : W.heap[D]? = some (.deferred ds)) (hD : w0.heap.size ≤ D) (o' : Obj) :
    ∃ v, W.heap[B]? = some (.cells #[v] ts (0, 0)) ∧ OwnF (W.putObj D o') te sz f v l ∧ (∀ k, v.ownBlock = some k → w0.heap.size ≤ k) ∧ Chg (fun _ => False) w0 (W.putObj D o') := by
  obtain ⟨v, hb, ho, hk, hbl, hB⟩ := h
  have hg := grownBy_putObj' W D o'
  refine ⟨v, hb, OwnF.turned ho hg (fun r e => by cases e; exact ⟨_, hK, rfl⟩), fun k hk2 => (hk k hk2).1, ?_⟩
  exact Chg.ofBelow (hbl.grown hg hbl.size (fun k e => by cases e; exact hD))
def fmem (x : Int × Int) : List Value := [.int .i64 x.1, .int .i64 x.2]
theorem layM : Lay fmem 2 := ⟨fun x => rfl, fun x u hu => by simp [fmem] at hu; rcases hu with rfl | rfl <;> rfl, by omega⟩
theorem info49 : (Try.prog.info? 49).map (fun i => (i.zero, i.size, i.bytes)) = some (some (.agg #[.int .i64 0, .int .i64 0]), 2, 16) := by kernel_rfl
/-- What 'row' hands back. -/
def RowPost (L : List (Int × Int)) (w : World) (e : Ending) (w' : World) : Prop :=
  ∃ v, e = .returned v ∧ OwnF w' 49 2 fmem v L ∧ (∀ k, v.ownBlock = some k → w.heap.size ≤ k) ∧ Chg (fun _ => False) w w'
set_option maxRecDepth 100000 in
set_option maxHeartbeats 4000000 in
theorem row_all {w : World} {g : Nat} {mp : Option Nat} {X : List Mem} {nn : Int} {L : List (Int × Int)} (hch : ChW 95 54 w g mp X nn) (hL : Nm X L) (hX : X.length ≤ 1000) :
    Calls Try.prog 32 #[.pointer (some ⟨g, 0, none⟩), .bool false] w (RowPost L w) := by
  have hLX := hL.length
  obtain ⟨n0, hn0⟩ : ∃ n0, n0 = w.heap.size := ⟨_, rfl⟩
  obtain ⟨W2, hW2⟩ : ∃ W2, W2 = (w.alloc (.cells #[.slice none 0 0] 33)).alloc (.cells #[.pointer (some ⟨g, 0, none⟩)] 23) := ⟨_, rfl⟩
  have hB0 : W2.heap[n0]? = some (.cells #[.slice none 0 0] 33 (0, 0)) := by rw [hW2, hn0]; exact heap_alloc_ne (heap_alloc_at _ _)
  have hB1 : W2.heap[n0 + 1]? = some (.cells #[.pointer (some ⟨g, 0, none⟩)] 23 (0, 0)) := by
    rw [hW2, hn0]
    have := heap_alloc_at (w.alloc (.cells #[.slice none 0 0] 33)) (.cells #[.pointer (some ⟨g, 0, none⟩)] 23)
    rwa [World.size_alloc] at this
  have hbl : Below w.heap.size w W2 := by rw [hW2]; exact ((Below.refl _ w).alloc (Nat.le_refl _) _).alloc (by simp) _
  have hsz : W2.heap.size = n0 + 2 := by rw [hW2, hn0]; simp
  have hown : ∀ k, (k = n0 + 1 ∨ Mine g mp X k) → ¬ OutOwn n0 W2 k := by
    rintro k hk ⟨h1, rfl | ⟨v, h2, h3⟩⟩
    · rcases hk with hk | hk
      · omega
      · have := hch.lt hk; omega
    · rw [cell_of hB0 0 rfl] at h2
      cases h2
      cases h3
  have hcoll : Coll 33 49 2 fmem n0 w [] W2 := ⟨_, hB0, OwnF.nil _ _ _ _, (fun k hk => by cases hk), hbl, by omega⟩
  have hst := all_stops (9 - 1) n0 n0 (n0 + 1) g mp X nn L W2 hB1 (hch.same (fun k hk => hbl.block k (hch.lt hk))) (by omega) hL (fun k hk => by rw [hn0]; exact hch.lt hk) (by omega) (fun v k h2 h3 => by rw [cell_of hB0 0 rfl] at h2; cases h2; cases h3) hown
  have HH := Lib.hid (⟨hch, hL, hX, hLX, hB0, hB1, hbl, hsz, hown, hcoll⟩ : _ ∧ _ ∧ _ ∧ _ ∧ _ ∧ _ ∧ _ ∧ _ ∧ _ ∧ _)
  have HST := Lib.hid hst
  have HW2 := Lib.hid hW2
  have HN0 := Lib.hid hn0
  clear hch hL hX hLX hB0 hB1 hbl hsz hown hcoll hst hn0 hW2
  refine (callsIn_wide (n := 9)).1 ?_
  refine callsIn_of_wp_marks Try.func32 rfl trivial ?_ rfl
  simp only [Try.ntmps32, List.size_toArray, List.length_cons, List.length_nil, Nat.reduceAdd, Nat.reduceSub, Array.replicate_succ, Array.replicate_zero, List.push_toArray, List.append_toArray, List.nil_append, List.cons_append]
  gi_wp2_with fail
  refine ⟨trivial, (callsIn_wide.2 (all_any _ _)).mono ?_⟩
  rintro e w' ⟨rfl, rfl⟩
  gi_wp2_with fail
  rw [← HW2.out, ← HN0.out]
  obtain ⟨hch, hL, hX, hLX, hB0, hB1, hbl, hsz, hown, hcoll⟩ := HH.out
  have hn0 := HN0.out
  refine wpIn_rangeFunc_ownF rfl (by omega) (gf := 85) (lb := #[.pointer (some ⟨n0 + 1, 0, none⟩)]) rfl trivial (enters_of Try.func85 (by kernel_rfl) rfl)
    HST.out (fun h k => Kept.trans h k) (kept_b (by omega) (by omega)) (Below.refl _ _) (fun _ => rfl)
    (fun pre W => Coll 33 49 2 fmem n0 w pre W) (fun _ _ _ => False) (Coll.ownFrom (by omega)) (fun _ _ _ _ _ hs _ _ => hs) hcoll
    (fun x => { tmps := #[.pointer (some ⟨g, 0, none⟩), .bool false, undef, undef, .slice none 0 0, .pointer (some ⟨n0, 0, none⟩), .func (.func 85) #[] #[.pointer (some ⟨n0 + 1, 0, none⟩)], .int .i64 x.1, .int .i64 x.2, .pointer (some ⟨g, 0, none⟩), .func (.func 85) #[] #[.pointer (some ⟨n0 + 1, 0, none⟩)], .bool false,
      undef, undef, .func (.func 85) #[] #[.pointer (some ⟨n0 + 1, 0, none⟩)], .int .i64 x.1, .int .i64 x.2, undef, undef, undef, undef, undef, undef, undef, undef, undef, undef], defers := [] }) ?assign ?body ?done ?stop
  case assign =>
    clear hch hL hX hLX hB0 hB1 hbl hsz hown hcoll hn0
    intro l x W K hK
    simp only [encs]
    gi_wp2
    exact hK
  case body =>
    clear hch hL hB0 hB1 hbl hsz hown hcoll hn0
    rintro l pre x W hc hlt
    obtain ⟨A, m, c, A', c', w2, hm, hb, hrun, hb2, hb3, hko, hkp, hc3⟩ := hc.push n0 layM Try.underlying33 info49 rfl x (by omega) (by omega)
    have hle : (m : Int) + 1 ≤ 1000 := by omega
    have r0 := cell_of hb 0 rfl
    have r1 := cell_of hb2 0 rfl
    have r2 := frz hb2
    have r3 := cell_of hb3 0 rfl
    have HF := Lib.hid (⟨hko, hkp, hc3⟩ : _ ∧ _ ∧ _)
    clear hc hlt hm hb hb2 hb3 hko hkp hc3 hX hLX
    simp only [fmem] at hrun
    gi_wp2_with (gi_at_builtin; refine wpListIn_append_run rfl _ _ 33 rfl _ _ _ _ rfl rfl hrun ?_)
    exact HF.out
  case done =>
    rintro D ys W hD rfl hC hK
    obtain ⟨v, hb, ho, hf, hcg⟩ := hC.close hK (by omega) (.deferred none)
    have r0 := cell_of hb 0 rfl
    have HF := Lib.hid (⟨ho, hf, hcg⟩ : _ ∧ _ ∧ _)
    clear hch hL hX hLX hB0 hB1 hbl hsz hown hcoll hn0 hC hb ho hf hcg
    gi_wp2
    refine ⟨by simp, .inl ⟨_, _, rfl, run_takeDeferred hK, ?_⟩⟩
    exact ⟨_, results_tmp rfl _ _ _, v, rfl, HF.out⟩
  case stop =>
    rintro D c pre W _ _ h _
    exact h.elim
end Go.Proofs.Ythoagpagnldmeaa
