/- A chain of numbers: going through it backwards. -/
import Derived.Test.YthoagpagnldmeaaCi
import Derived.Test.YthoagpagnldmeaaK3
import Derived.RangeFuncNested
import Derived.RangeFuncBound
import Derived.RangeFuncCalls
import Derived.RangeFuncLeaves
import Derived.Shelf.Abstract
import Derived.Shelf.RegionOpen
import Derived.WalkKit
import Derived.OwnWalkIn
import Derived.TacticsInMore
import Derived.LoopNIn
import Derived.LoopIn
set_option linter.unusedVariables false
set_option linter.unusedSimpArgs false
namespace Go.Proofs.Ythoagpagnldmeaa
open Go.RowKit Go.Ps
attribute [local go_sem] Oper.semAt_some
theorem back_any (p : Option Addr) (w : World) : Calls Try.prog 74 #[.pointer p] w fun e w' => e = .returned (.func (.func 87) #[] #[.pointer (some ⟨w.heap.size, 0, none⟩)]) ∧ w' = w.alloc (.cells #[.pointer p] 23) := by
  go_enter Try.func74, Try.ntmps74
  go_wp2
  go_ret
  exact ⟨rfl, rfl⟩
set_option maxRecDepth 20000 in
set_option maxHeartbeats 2000000 in
theorem back_stops (n n₀ B cb g : Nat) (mp : Option Nat) (X : List Mem) (nn : Int) (L : List (Int × Int)) (w : World) (hcb : w.heap[cb]? = some (.cells #[.pointer (some ⟨g, 0, none⟩)] 23 (0, 0))) (hch : ChW 95 54 w g mp X nn) (hX : X.length ≤ 1000000) (hL : Nm X L) (hn₀ : ∀ k, Mine g mp X k → k < n₀)
    (hB : B < w.heap.size) (hBv : ∀ v k, w.cell? ⟨B, 0, none⟩ = some v → v.ownBlock = some k → k < w.heap.size) (hown : ∀ k, (k = cb ∨ Mine g mp X k) → ¬ OutOwn B w k) :
    SeqStopsK Fence.wide n Try.prog 87 #[.pointer (some ⟨cb, 0, none⟩)] encs (Kept n₀ B) (fun xs => xs = L.reverse) (fun pre => pre <+: L.reverse) L.length w := fun l J Jx W hW hJ hJx hY h0 => by
  have hcbW : W.heap[cb]? = some (.cells #[.pointer (some ⟨g, 0, none⟩)] 23 (0, 0)) := (hW.block cb (heap_lt hcb)).trans hcb
  have hchW : ChW 95 54 W g mp X nn := hch.same (fun k hk => hW.block k (hch.lt hk))
  have hh := handles_any hchW hX
  have hc0 := cell_of hcbW 0 rfl
  refine callsIn_of_wp Try.func87 rfl trivial ?_ rfl
  simp only [Try.ntmps87, List.size_toArray, List.length_cons, List.length_nil, Nat.reduceAdd, Nat.reduceSub, Array.replicate_succ, Array.replicate_zero, List.push_toArray, List.append_toArray, List.nil_append, List.cons_append]
  have HH := Lib.hid (⟨hcb, hch, hX, hL, hn₀, hB, hBv, hown, hW, hJ, hJx, hY, h0⟩ : _ ∧ _ ∧ _ ∧ _ ∧ _ ∧ _ ∧ _ ∧ _ ∧ _ ∧ _ ∧ _ ∧ _ ∧ _)
  clear hcb hch hX hL hn₀ hB hBv hown hW hJ hJx hY h0
  gi_wp2_with fail
  refine ⟨trivial, (fun h => by cases h), (callsIn_wide.2 hh).mono ?_⟩
  rintro e W1 ⟨v, rfl, hNew⟩
  obtain ⟨A, m, c, rfl, hm, hr⟩ := hNew.form3
  obtain ⟨hcb, hch, hX, hL, hn₀, hB, hBv, hown, hW, hJ, hJx, hY, h0⟩ := HH.out
  have hml : m = X.length := by rw [hm, List.length_map]
  have hfr : ∀ a, A = some a → W.heap.size ≤ a.block := fun a ha => hNew.2.2 _ (by rw [ha]; rfl)
  have hC := hNew.2.1
  have hBW : B < W.heap.size := Nat.lt_of_lt_of_le hB hW.size
  have hB1 : W1.heap[B]? = w.heap[B]? := (hC.block B hBW id).trans (hW.block B hB)
  have hsafe : ∀ k, (k = cb ∨ Mine g mp X k ∨ ∃ a, A = some a ∧ a.block = k ∧ k < W1.heap.size) → Safe n₀ B W1 k := by
    have hold : ∀ k, OutOwn B W1 k → OutOwn B w k := fun k hk => hk.old hB hBv (Nat.le_trans hW.size hC.size) hB1
    rintro k (rfl | hk | ⟨a, ha, hk, hlt⟩)
    · refine ⟨fun ho => hown k (.inl rfl) (hold k ho), _, (hC.block k (heap_lt hcbW) id).trans hcbW, .inl rfl⟩
    · obtain ⟨o, ho⟩ : ∃ o, W1.heap[k]? = some o := ⟨_, Array.getElem?_eq_getElem (Nat.lt_of_lt_of_le (hchW.lt hk) hC.size)⟩
      exact ⟨fun h1 => hown k (.inr hk) (hold k h1), o, ho, .inr (hn₀ k hk)⟩
    · obtain ⟨o, ho⟩ : ∃ o, W1.heap[k]? = some o := ⟨_, Array.getElem?_eq_getElem hlt⟩
      refine ⟨fun h1 => ?_, o, ho, ?_⟩
      · have h2 := (hold k h1).1
        have h3 := hfr a ha
        have h4 := hW.size
        omega
      · have hown1 := hNew.1
        rcases hown1.2 with ⟨hv, h0⟩ | ⟨g', cap, cur, hv, hbg, hg, _⟩
        · subst ha; cases hv
        · subst ha
          cases hv
          subst hk
          rw [hg] at ho
          cases ho
          exact .inl rfl
  have hch1 : ChW 95 54 W1 g mp X nn := hchW.keep hC (fun _ _ => id)
  have hcb1 : W1.heap[cb]? = some (.cells #[.pointer (some ⟨g, 0, none⟩)] 23 (0, 0)) := (hC.block cb (heap_lt hcbW) id).trans hcbW
  have hJ1 : J [] W1 := hJ [] W W1 none h0 (grownBy_of_chg hC) (fun r e => by cases e)
  have HF := Lib.hid (⟨hsafe, hch1, hcb1, hL, hr, hX, hml, hY⟩ : _ ∧ _ ∧ _ ∧ _ ∧ _ ∧ _ ∧ _ ∧ _)
  have HJB := Lib.hid hJ
  clear HH hcb hch hX hL hn₀ hB hBv hown hW hJ hJx hY h0 hcbW hchW hh hc0 hNew hm hr hml hfr hC hBW hB1 hsafe hch1 hcb1
  have HJ1 := Lib.hid hJ1
  clear hJ1
  have hmx : Try.prog.follows .mixedOrders = true := by kernel_rfl
  obtain ⟨M1, hM1⟩ : ∃ M1 : Int, M1 = wrap64 ((m : Int) - 1) := ⟨_, rfl⟩
  have HM1 := Lib.hid (show M1 = (X.length : Int) - 1 by rw [hM1, HF.out.2.2.2.2.2.2.1]; have := HF.out.2.2.2.2.2.1; unfold wrap64; omega)
  gi_wp2
  rw [← hM1]
  clear hM1
  gi_loopw [4] (fun i wr => ∃ k : Nat, i = .int .i64 ((k : Int) - 1) ∧ k ≤ X.length ∧ J (L.reverse.take (X.length - k)) wr ∧ (∀ x, (x = cb ∨ Mine g mp X x ∨ ∃ a, A = some a ∧ a.block = x ∧ x < W1.heap.size) → wr.heap[x]? = W1.heap[x]? ∧ Safe n₀ B wr x)) (fun i _ => (intOf i + 1).toNat)
  case atStart => exact ⟨X.length, by rw [HM1.out], by omega, by rw [Nat.sub_self]; exact HJ1.out, fun x hx => ⟨rfl, HF.out.1 x hx⟩⟩
  case round =>
    obtain ⟨k, rfl, hk, hJk, hst⟩ := hrel
    obtain ⟨hsafe, hch1, hcb1, hL, hr, hX, hml, hY⟩ := HF.out
    have hchR : ChW 95 54 wr g mp X nn := hch1.same (fun x hx => (hst x (.inr (.inl hx))).1)
    have hcbR : wr.heap[cb]? = some (.cells #[.pointer (some ⟨g, 0, none⟩)] 23 (0, 0)) := (hst cb (.inl rfl)).1.trans hcb1
    have hc0 := cell_of hcbR 0 rfl
    have hLl := hL.length
    cases k with
    | zero =>
      rw [Nat.sub_zero, hLl, show L.length = L.reverse.length by simp, List.take_length] at hJk
      have HJk := Lib.hid hJk
      clear hchR hcbR hst hsafe hch1 hcb1 hL hr hX hml hY hLl hJk hk
      rw [show ((0 : Nat) : Int) - 1 = -1 by omega]
      gi_wp2
      go_end0
      first | exact ⟨⟨_, rfl⟩, .inl ⟨L.reverse, rfl, HJk.out⟩⟩ | exact ⟨⟨_, rfl⟩, .inl HJk.out⟩
    | succ j =>
      rw [show ((j + 1 : Nat) : Int) - 1 = (j : Int) by omega]
      obtain ⟨x, hx, z, hxL, hxv, hxh⟩ := hL.get j (by omega)
      obtain ⟨g', o, rfl, hcell⟩ := ReadsI.plain hr (by intro e; rw [List.map_eq_nil_iff] at e; rw [e] at hk; simp at hk)
      have hcell0 := hcell j (by rw [List.length_map]; omega)
      have hst1 := (hst g' (.inr (.inr ⟨_, rfl, rfl, World.block_lt_of_cell? W1 _ hcell0⟩))).1
      have hcell1 : wr.cell? ⟨g', o + j, none⟩ = some (.int .i64 x.h) := by
        rw [World.cell?_of_block (w := W1) hst1, hcell0, List.getD_eq_getElem?_getD, hxh]
        rfl
      have hget := get_some z hchR (findH_nd hchR.hs hx) hxv
      have hgetD := get_some (w := wr.drew) z (ChW.same (W' := wr.drew) hchR (fun _ _ => rfl)) (findH_nd hchR.hs hx) hxv
      have hLk : L.reverse.take (X.length - j) = L.reverse.take (X.length - (j + 1)) ++ [(x.h, z)] := by
        have e1 : X.length - j = (X.length - (j + 1)) + 1 := by omega
        have e2 : L.reverse[X.length - (j + 1)]? = some (x.h, z) := by
          rw [List.getElem?_reverse (by omega)]
          rw [← hxL]
          congr 1
          omega
        rw [e1, List.take_add_one, e2]
        rfl
      have hJd : J (L.reverse.take (X.length - (j + 1))) wr.drew := HJB.out _ wr wr.drew none hJk ⟨rfl, rfl, rfl, Nat.le_refl _, fun _ _ _ => rfl⟩ (fun r e => by cases e)
      obtain ⟨fn, tmps, assign, body, hy, hR⟩ := hY (L.reverse.take (X.length - (j + 1))) (x.h, z) wr.drew hJd (by rw [List.length_take, List.length_reverse]; omega)
      dsimp only [encs] at hy
      have hkm : (j : Int) < m := by rw [hml]; omega
      have hj0 : (0 : Int) ≤ j := by omega
      have HW := Lib.hid (show wrap64 ((j : Int) - 1) = (j : Int) - 1 by unfold wrap64; omega)
      have HG := Lib.hid (⟨hst, hLk, hk, hLl⟩ : _ ∧ _ ∧ _ ∧ _)
      clear hchR hcbR hst hsafe hch1 hcb1 hL hr hX hml hY hcell hcell0 hx hxL hxv hxh hLk hLl hJk hk hst1 hJd
      gi_wp2
      gi_region_with_o (refine ⟨trivial, (fun h => by cases h), (callsIn_wide.2 hgetD).mono ?_⟩; rintro e w' ⟨rfl, rfl⟩)
      all_goals
        clear hget hgetD
        try gi_wp2
        refine ⟨(fun h => by cases h), hR.mono ?_⟩
        rintro e W3 (⟨rfl, hJ3, hk3⟩ | ⟨rfl, hJx3⟩)
        · obtain ⟨hst, hLk, hkl, hLl⟩ := HG.out
          rw [← hLk] at hJ3
          have hst3 : ∀ x, (x = cb ∨ Mine g mp X x ∨ ∃ a, some (⟨g', o, none⟩ : Addr) = some a ∧ a.block = x ∧ x < W1.heap.size) → W3.heap[x]? = W1.heap[x]? ∧ Safe n₀ B W3 x := fun x hx => by
            obtain ⟨h1, h2⟩ := hst x hx
            obtain ⟨h3, h4⟩ := Safe.kept (W := wr.drew) h2 hk3
            exact ⟨h3.trans h1, h4⟩
          have HJ3 := Lib.hid hJ3
          have HK := Lib.hid hkl
          have HS := Lib.hid hst3
          clear hJ3 hk3 hst hLk hkl hLl hst3 HG hy hR
          gi_wp2
          go_roundw
          case rel => exact ⟨j, by rw [HW.out], Nat.le_of_succ_le HK.out, HJ3.out, HS.out⟩
          case measure =>
            rw [HW.out]
            simp only [intOf]
            omega
        · gi_wp2
          refine bodyPost_ret (results_none rfl _ _ _) rfl ?_
          refine ⟨⟨_, rfl⟩, .inr ⟨L.reverse.take (X.length - (j + 1)) ++ [(x.h, z)], ?_, hJx3⟩⟩
          rw [← HG.out.2.1]
          exact List.take_prefix _ _
end Go.Proofs.Ythoagpagnldmeaa
