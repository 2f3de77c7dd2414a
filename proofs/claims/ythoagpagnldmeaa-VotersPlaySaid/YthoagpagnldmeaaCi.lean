/- A chain of numbers: going through it. -/
import Derived.Test.YthoagpagnldmeaaCl
import Derived.Test.YthoagpagnldmeaaK3
import Derived.RangeFuncNested
import Derived.RangeFuncBound
import Derived.RangeFuncCalls
import Derived.RangeFuncLeaves
import Derived.Shelf.Abstract
import Derived.Shelf.RegionOpen
import Derived.WalkKit
import Derived.OwnWalkIn
import Derived.TacticsInMore
import Derived.LoopNIn
import Derived.LoopIn
set_option linter.unusedVariables false
set_option linter.unusedSimpArgs false
namespace Go.Proofs.Ythoagpagnldmeaa
open Go.RowKit Go.Ps
attribute [local go_sem] Oper.semAt_some
/-- The loop's own blocks: its box B, and the row that lies in it. -/
def OutOwn (B : Nat) (W : World) (k : Nat) : Prop := k < W.heap.size ∧ (k = B ∨ ∃ v, W.cell? ⟨B, 0, none⟩ = some v ∧ v.ownBlock = some k)
/-- What a round keeps: all cells but its own, and all that lay below. -/
structure Kept (n₀ B : Nat) (W W' : World) : Prop where
  size : W.heap.size ≤ W'.heap.size
  same : ∀ k o, W.heap[k]? = some o → ¬ OutOwn B W k → (o.isCells = true ∨ k < n₀) → W'.heap[k]? = some o
  own : ∀ k, OutOwn B W' k → OutOwn B W k ∨ W.heap.size ≤ k
theorem Kept.trans {n₀ B : Nat} {U V W : World} (h : Kept n₀ B U V) (k : Kept n₀ B V W) : Kept n₀ B U W := by
  refine ⟨Nat.le_trans h.size k.size, fun i o hi hn hc => k.same i o (h.same i o hi hn hc) (fun ho => ?_) hc, fun i hi => ?_⟩
  · rcases h.own i ho with h1 | h1
    · exact hn h1
    · have := heap_lt hi; omega
  · rcases k.own i hi with h1 | h1
    · exact h.own i h1
    · exact .inr (Nat.le_trans h.size h1)
theorem kept_b {n₀ B : Nat} {w : World} (hn : n₀ ≤ w.heap.size) (hB : B < w.heap.size) (W : World) (l : Nat) (o o' : Obj) (hl : w.heap.size ≤ l) (h : W.heap[l]? = some o) (hc : o.isCells = false) (_ : o.isWalk = false) : Kept n₀ B W (W.putObj l o') := by
  have hs : ∀ k, k ≠ l → (W.putObj l o').heap[k]? = W.heap[k]? := fun k hk => World.putObj_heap_other hk
  have hz : (W.putObj l o').heap.size = W.heap.size := by simp [World.putObj]
  refine ⟨by rw [hz]; exact Nat.le_refl _, fun k x hk hno hx => ?_, fun k hk => ?_⟩
  · rw [hs k]
    · exact hk
    · rintro rfl
      rw [h] at hk
      cases hk
      rcases hx with hx | hx
      · rw [hc] at hx; cases hx
      · omega
  · obtain ⟨h1, h2⟩ := hk
    rw [hz] at h1
    refine .inl ⟨h1, h2.imp id ?_⟩
    rintro ⟨v, hv, e⟩
    refine ⟨v, ?_, e⟩
    rw [← hv]
    exact (World.cell?_of_block (hs B (by omega))).symm
/-- A block that no round touches. -/
def Safe (n₀ B : Nat) (W : World) (k : Nat) : Prop := ¬ OutOwn B W k ∧ ∃ o, W.heap[k]? = some o ∧ (o.isCells = true ∨ k < n₀)
theorem Safe.kept {n₀ B k : Nat} {W W' : World} (h : Safe n₀ B W k) (hk : Kept n₀ B W W') : W'.heap[k]? = W.heap[k]? ∧ Safe n₀ B W' k := by
  obtain ⟨h1, o, h2, h3⟩ := h
  have h4 := hk.same k o h2 h1 h3
  refine ⟨h4.trans h2.symm, fun ho => ?_, o, h4, h3⟩
  rcases hk.own k ho with h5 | h5
  · exact h1 h5
  · have := heap_lt h2; omega
/-- What stands behind B is no new block. -/
theorem OutOwn.old {B k : Nat} {w W : World} (hB : B < w.heap.size) (hv : ∀ v k, w.cell? ⟨B, 0, none⟩ = some v → v.ownBlock = some k → k < w.heap.size) (hs : w.heap.size ≤ W.heap.size) (hb : W.heap[B]? = w.heap[B]?) (h : OutOwn B W k) : OutOwn B w k := by
  obtain ⟨h1, rfl | ⟨v, h2, h3⟩⟩ := h
  · exact ⟨hB, .inl rfl⟩
  · have h4 : w.cell? ⟨B, 0, none⟩ = some v := by rw [← h2]; exact (World.cell?_of_block hb).symm
    exact ⟨hv v k h4 h3, .inr ⟨v, h4, h3⟩⟩
theorem findH_nd : ∀ {X : List Mem}, (X.map (·.h)).Nodup → ∀ {x : Mem}, x ∈ X → findH X x.h = some x
  | [], _, x, hx => by cases hx
  | y :: X, hn, x, hx => by
    simp only [List.map_cons, List.nodup_cons, List.mem_map] at hn
    unfold findH
    rw [List.find?_cons]
    rcases List.mem_cons.1 hx with rfl | hx
    · simp
    · have hne : (y.h == x.h) = false := by
        simp only [beq_eq_false_iff_ne]
        exact fun e => hn.1 ⟨x, hx, e.symm⟩
      rw [hne]
      exact findH_nd hn.2 hx
theorem grownBy_of_chg {w w' : World} (h : Chg (fun _ => False) w w') : w.grownBy w' none := ⟨h.os, h.tape, h.output, h.size, fun i hi _ => h.block i hi id⟩
/-- The members' handles and values. -/
def Nm (X : List Mem) (L : List (Int × Int)) : Prop := X.map (fun x => (x.h, x.v)) = L.map (fun p => (p.1, Value.int .i64 p.2))
def encs (x : Int × Int) : Array Value := #[.int .i64 x.1, Value.int .i64 x.2]
theorem Nm.length {X : List Mem} {L : List (Int × Int)} (h : Nm X L) : X.length = L.length := by simpa using congrArg List.length h
theorem Nm.get {X : List Mem} {L : List (Int × Int)} (h : Nm X L) (k : Nat) (hk : k < L.length) : ∃ x ∈ X, ∃ z, L[k]? = some (x.h, z) ∧ x.v = Value.int .i64 z ∧ (X.map (·.h))[k]? = some x.h := by
  have hl := h.length
  have h1 := congrArg (fun l => l[k]?) h
  simp only [List.getElem?_map, List.getElem?_eq_getElem hk, List.getElem?_eq_getElem (hl ▸ hk : k < X.length), Option.map_some, Option.some.injEq, Prod.mk.injEq] at h1
  refine ⟨X[k], List.getElem_mem _, (L[k]).2, ?_, h1.2, ?_⟩
  · rw [List.getElem?_eq_getElem hk, h1.1]
  · rw [List.getElem?_map, List.getElem?_eq_getElem (hl ▸ hk : k < X.length)]; rfl
theorem all_any (p : Option Addr) (w : World) : Calls Try.prog 58 #[.pointer p] w fun e w' => e = .returned (.func (.func 85) #[] #[.pointer (some ⟨w.heap.size, 0, none⟩)]) ∧ w' = w.alloc (.cells #[.pointer p] 23) := by
  go_enter Try.func58, Try.ntmps58
  go_wp2
  go_ret
  exact ⟨rfl, rfl⟩
set_option maxRecDepth 20000 in
set_option maxHeartbeats 2000000 in
theorem all_stops (n n₀ B cb g : Nat) (mp : Option Nat) (X : List Mem) (nn : Int) (L : List (Int × Int)) (w : World) (hcb : w.heap[cb]? = some (.cells #[.pointer (some ⟨g, 0, none⟩)] 23 (0, 0))) (hch : ChW 95 54 w g mp X nn) (hX : X.length ≤ 1000000) (hL : Nm X L) (hn₀ : ∀ k, Mine g mp X k → k < n₀)
    (hB : B < w.heap.size) (hBv : ∀ v k, w.cell? ⟨B, 0, none⟩ = some v → v.ownBlock = some k → k < w.heap.size) (hown : ∀ k, (k = cb ∨ Mine g mp X k) → ¬ OutOwn B w k) :
    SeqStopsK Fence.wide n Try.prog 85 #[.pointer (some ⟨cb, 0, none⟩)] encs (Kept n₀ B) (fun xs => xs = L) (fun pre => pre <+: L) L.length w := fun l J Jx W hW hJ hJx hY h0 => by
  have hcbW : W.heap[cb]? = some (.cells #[.pointer (some ⟨g, 0, none⟩)] 23 (0, 0)) := (hW.block cb (heap_lt hcb)).trans hcb
  have hchW : ChW 95 54 W g mp X nn := hch.same (fun k hk => hW.block k (hch.lt hk))
  have hh := handles_any hchW hX
  have hc0 := cell_of hcbW 0 rfl
  refine callsIn_of_wp Try.func85 rfl trivial ?_ rfl
  simp only [Try.ntmps85, List.size_toArray, List.length_cons, List.length_nil, Nat.reduceAdd, Nat.reduceSub, Array.replicate_succ, Array.replicate_zero, List.push_toArray, List.append_toArray, List.nil_append, List.cons_append]
  have HH := Lib.hid (⟨hcb, hch, hX, hL, hn₀, hB, hBv, hown, hW, hJ, hJx, hY, h0⟩ : _ ∧ _ ∧ _ ∧ _ ∧ _ ∧ _ ∧ _ ∧ _ ∧ _ ∧ _ ∧ _ ∧ _ ∧ _)
  clear hcb hch hX hL hn₀ hB hBv hown hW hJ hJx hY h0
  gi_wp2_with fail
  refine ⟨trivial, (fun h => by cases h), (callsIn_wide.2 hh).mono ?_⟩
  rintro e W1 ⟨v, rfl, hNew⟩
  obtain ⟨A, m, c, rfl, hm, hr⟩ := hNew.form3
  obtain ⟨hcb, hch, hX, hL, hn₀, hB, hBv, hown, hW, hJ, hJx, hY, h0⟩ := HH.out
  have hml : m = X.length := by rw [hm, List.length_map]
  have hfr : ∀ a, A = some a → W.heap.size ≤ a.block := fun a ha => hNew.2.2 _ (by rw [ha]; rfl)
  have hC := hNew.2.1
  have hBW : B < W.heap.size := Nat.lt_of_lt_of_le hB hW.size
  have hB1 : W1.heap[B]? = w.heap[B]? := (hC.block B hBW id).trans (hW.block B hB)
  have hsafe : ∀ k, (k = cb ∨ Mine g mp X k ∨ ∃ a, A = some a ∧ a.block = k ∧ k < W1.heap.size) → Safe n₀ B W1 k := by
    have hold : ∀ k, OutOwn B W1 k → OutOwn B w k := fun k hk => hk.old hB hBv (Nat.le_trans hW.size hC.size) hB1
    rintro k (rfl | hk | ⟨a, ha, hk, hlt⟩)
    · refine ⟨fun ho => hown k (.inl rfl) (hold k ho), _, (hC.block k (heap_lt hcbW) id).trans hcbW, .inl rfl⟩
    · obtain ⟨o, ho⟩ : ∃ o, W1.heap[k]? = some o := ⟨_, Array.getElem?_eq_getElem (Nat.lt_of_lt_of_le (hchW.lt hk) hC.size)⟩
      exact ⟨fun h1 => hown k (.inr hk) (hold k h1), o, ho, .inr (hn₀ k hk)⟩
    · obtain ⟨o, ho⟩ : ∃ o, W1.heap[k]? = some o := ⟨_, Array.getElem?_eq_getElem hlt⟩
      refine ⟨fun h1 => ?_, o, ho, ?_⟩
      · have h2 := (hold k h1).1
        have h3 := hfr a ha
        have h4 := hW.size
        omega
      · have hown1 := hNew.1
        rcases hown1.2 with ⟨hv, h0⟩ | ⟨g', cap, cur, hv, hbg, hg, _⟩
        · subst ha; cases hv
        · subst ha
          cases hv
          subst hk
          rw [hg] at ho
          cases ho
          exact .inl rfl
  have hch1 : ChW 95 54 W1 g mp X nn := hchW.keep hC (fun _ _ => id)
  have hcb1 : W1.heap[cb]? = some (.cells #[.pointer (some ⟨g, 0, none⟩)] 23 (0, 0)) := (hC.block cb (heap_lt hcbW) id).trans hcbW
  have hJ1 : J [] W1 := hJ [] W W1 none h0 (grownBy_of_chg hC) (fun r e => by cases e)
  have HF := Lib.hid (⟨hsafe, hch1, hcb1, hL, hr, hX, hml, hY⟩ : _ ∧ _ ∧ _ ∧ _ ∧ _ ∧ _ ∧ _ ∧ _)
  clear HH hcb hch hX hL hn₀ hB hBv hown hW hJ hJx hY h0 hcbW hchW hh hc0 hNew hm hr hml hfr hC hBW hB1 hsafe hch1 hcb1
  have HJ1 := Lib.hid hJ1
  clear hJ1
  gi_wp2
  gi_loopw [10] (fun i wr => ∃ k : Nat, i = .int .i64 k ∧ k ≤ X.length ∧ J (L.take k) wr ∧ (∀ x, (x = cb ∨ Mine g mp X x ∨ ∃ a, A = some a ∧ a.block = x ∧ x < W1.heap.size) → wr.heap[x]? = W1.heap[x]? ∧ Safe n₀ B wr x)) (fun i _ => X.length - (intOf i).toNat)
  case atStart => exact ⟨0, rfl, by omega, HJ1.out, fun x hx => ⟨rfl, HF.out.1 x hx⟩⟩
  case round =>
    obtain ⟨k, rfl, hk, hJk, hst⟩ := hrel
    obtain ⟨hsafe, hch1, hcb1, hL, hr, hX, hml, hY⟩ := HF.out
    have hchR : ChW 95 54 wr g mp X nn := hch1.same (fun x hx => (hst x (.inr (.inl hx))).1)
    have hcbR : wr.heap[cb]? = some (.cells #[.pointer (some ⟨g, 0, none⟩)] 23 (0, 0)) := (hst cb (.inl rfl)).1.trans hcb1
    have hc0 := cell_of hcbR 0 rfl
    have hLl := hL.length
    by_cases hkl : k < X.length
    · obtain ⟨x, hx, z, hxL, hxv, hxh⟩ := hL.get k (hLl ▸ hkl)
      obtain ⟨g', o, rfl, hcell⟩ := ReadsI.plain hr (by intro e; rw [List.map_eq_nil_iff] at e; rw [e] at hkl; simp at hkl)
      have hcell0 := hcell k (by rw [List.length_map]; exact hkl)
      have hcell1 : wr.cell? ⟨g', o + k, none⟩ = some (.int .i64 x.h) := by
        rw [World.cell?_of_block (w := W1) (hst g' (.inr (.inr ⟨_, rfl, rfl, World.block_lt_of_cell? W1 _ hcell0⟩))).1, hcell0, List.getD_eq_getElem?_getD, hxh]
        rfl
      have hget := get_some z hchR (findH_nd hchR.hs hx) hxv
      have hLk : L.take (k + 1) = L.take k ++ [(x.h, z)] := by
        rw [List.take_add_one, hxL]; rfl
      obtain ⟨fn, tmps, assign, body, hy, hR⟩ := hY (L.take k) (x.h, z) wr hJk (by rw [List.length_take]; omega)
      dsimp only [encs] at hy
      have hkm : (k : Int) < m := by rw [hml]; omega
      have HW := Lib.hid (show wrap64 ((k : Int) + 1) = ((k + 1 : Nat) : Int) by unfold wrap64; omega)
      have HG := Lib.hid (⟨hst, hLk, hkl, hLl⟩ : _ ∧ _ ∧ _ ∧ _)
      clear hchR hcbR hst hsafe hch1 hcb1 hL hr hX hml hY hcell hcell0 hx hxL hxv hxh hLk hLl hkl hJk hk
      gi_wp2_with fail
      refine ⟨trivial, (fun h => by cases h), (callsIn_wide.2 hget).mono ?_⟩
      rintro e w' ⟨rfl, rfl⟩
      clear hget
      gi_wp2
      refine ⟨(fun h => by cases h), hR.mono ?_⟩
      rintro e W3 (⟨rfl, hJ3, hk3⟩ | ⟨rfl, hJx3⟩)
      · obtain ⟨hst, hLk, hkl, hLl⟩ := HG.out
        rw [← hLk] at hJ3
        have hst3 : ∀ x, (x = cb ∨ Mine g mp X x ∨ ∃ a, some (⟨g', o, none⟩ : Addr) = some a ∧ a.block = x ∧ x < W1.heap.size) → W3.heap[x]? = W1.heap[x]? ∧ Safe n₀ B W3 x := fun x hx => by
          obtain ⟨h1, h2⟩ := hst x hx
          obtain ⟨h3, h4⟩ := h2.kept hk3
          exact ⟨h3.trans h1, h4⟩
        have HJ3 := Lib.hid hJ3
        have HK := Lib.hid hkl
        have HS := Lib.hid hst3
        clear hJ3 hk3 hst hLk hkl hLl hst3 HG hy hR
        gi_wp2
        go_roundw
        case rel => exact ⟨k + 1, by rw [HW.out], HK.out, HJ3.out, HS.out⟩
        case measure =>
          have h1 := HK.out
          rw [HW.out]
          simp only [intOf, Int.toNat_natCast]
          omega
      · gi_wp2
        refine bodyPost_ret (results_none rfl _ _ _) rfl ?_
        refine ⟨⟨_, rfl⟩, .inr ⟨L.take k ++ [(x.h, z)], ?_, hJx3⟩⟩
        rw [← HG.out.2.1]
        exact List.take_prefix _ _
    · obtain rfl : k = X.length := by omega
      rw [hLl, List.take_length] at hJk
      have hkm : ¬ (X.length : Int) < m := by rw [hml]; omega
      have HJk := Lib.hid hJk
      clear hchR hcbR hst hsafe hch1 hcb1 hL hr hX hml hY hLl hkl hJk hk
      gi_wp2
      go_end0
      first | exact ⟨⟨_, rfl⟩, .inl ⟨L, rfl, HJk.out⟩⟩ | exact ⟨⟨_, rfl⟩, .inl HJk.out⟩
end Go.Proofs.Ythoagpagnldmeaa
