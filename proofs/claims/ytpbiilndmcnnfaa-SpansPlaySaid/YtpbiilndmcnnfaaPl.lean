/- Spans: the walk of the law SpansPlay. -/
import Derived.Test.YtpbiilndmcnnfaaBs
set_option linter.unusedVariables false
set_option linter.unusedSimpArgs false
namespace Go.Proofs.Ytpbiilndmcnnfaa
open Go.RowKit Go.Ps

/-- The law's loop: both stand side by side. -/
def PInv (w0 : World) (k : Nat) (wr : World) (b b' : Nat) : Prop := ∃ v1 v2 ends charges v1' B begin_ ps, Both wr w0.heap.size b v1 v2 ends charges b' v1' B begin_ ps ∧ Sim ends charges begin_ ps ∧ ends.length ≤ k ∧ Below w0.heap.size w0 wr

theorem Side.ref_len {w0 w : World} {bx : Nat} {z1 z2 : Int} {b : Nat} {v1 v2 : Value} {ends charges : List Int} {b' : Nat} {v1' : Value} {B : Nat} {begin_ : List Int} {ps : List (Int × Value)} (h : Side w0 w bx z1 z2 b v1 v2 ends charges b' v1' B begin_ ps) (hS : Sim ends charges begin_ ps) :
    ∃ A n c, w.cell? ⟨b', 0, none⟩ = some (.slice A n c) ∧ n = ends.length := by
  obtain ⟨A, c, hv, _, _, _⟩ := h.bo.R.h1.form
  have hl : begin_.length = ends.length := by rw [hS.e, List.length_map]
  exact ⟨A, _, c, by rw [← hl, ← hv]; exact h.bo.R.c0, rfl⟩
set_option maxHeartbeats 8000000 in
set_option maxRecDepth 20000 in
theorem spansPlay_walk (A : Option Addr) (c : Nat) (l : List (Int × Int × Int)) (zero : Bool) (w : World) (hr : Reads3 w .i64 .i64 .u64 A l ∧ ∀ z ∈ l, (Lit.int .i64 z.1).wf = true ∧ (Lit.int .i64 z.2.1).wf = true ∧ (Lit.int .u64 z.2.2).wf = true) :
    Calls Try.prog 3 #[.slice A l.length c, .bool zero] w fun e w' => e = .returned (.bool true) ∧ Below w.heap.size w w' := by
  obtain ⟨hr, hw⟩ := hr
  by_cases hl : l.length ≤ 200
  · cases zero
    all_goals
      go_enter Try.func3, Try.ntmps3
      go_wp2_with (first | (go_at_call 6; refine (awake_any w).mono ?_; rintro e w1 ⟨rfl, hb1⟩) | (go_at_call 7; refine (new_any w1).mono ?_; rintro e w2 ⟨b0, rfl, hs0, hb0, hc2⟩) | (go_at_call 8; refine (rnew_any w2).mono ?_; rintro e w3 ⟨b', B', rfl, hR3, hb', hB', hc3⟩))
      have start : ∃ wr b, (wr = w3 ∧ b = b0 ∨ wr = w3.alloc (.cells #[.slice none 0 0, .slice none 0 0] 31) ∧ b = w3.heap.size) ∧ True := ⟨w3, b0, Or.inl ⟨rfl, rfl⟩, trivial⟩
      have hw1 := hb1.size
      have hw2 := hc2.size
      have hw3 := hc3.size
      have hb3 : Below w.heap.size w w3 := hb1.trans ((hc2.trans hc3 (fun _ _ => id)).below (fun k hk => ⟨by omega, id⟩))
      have sim0 : Sim [] [] [] [] := ⟨rfl, fun k => by rw [IM.get_nil]; simp [chargedOf], by simp, by simp⟩
      have st1 : PInv w 0 w3 b0 b' := ⟨_, _, [], [], _, B', [], [], ⟨hs0.chg hc3 (fun _ _ => id), hR3, fun k hk hr => by
        have := hs0.lt hk
        rcases hr with hr | hr | hr
        · omega
        · simp [Value.ownBlock] at hr
        · omega, fun k hk => by
        rcases hk with (hk | hk | hk) | (hk | hk | hk)
        · omega
        · simp [Value.ownBlock] at hk
        · simp [Value.ownBlock] at hk
        · omega
        · simp [Value.ownBlock] at hk
        · omega⟩, sim0, Nat.le_refl _, hb3⟩
      have st2 : PInv w 0 (w3.alloc (.cells #[.slice none 0 0, .slice none 0 0] 31)) w3.heap.size b' := ⟨.slice none 0 0, .slice none 0 0, [], [], _, B', [], [], ⟨⟨heap_alloc_at _ _, Own.nil _ _ _, Own.nil _ _ _, by simp [Value.ownBlock], by simp [Value.ownBlock], by simp [Value.ownBlock], fun i j _ hj => by simp at hj, by simp, by simp⟩, hR3.chg ((Chg.refl (fun _ => False) w3).alloc _) (fun _ _ => id), fun k hk hr => by
        have := hR3.lt hr
        rcases hk with hk | hk | hk
        · omega
        · simp [Value.ownBlock] at hk
        · simp [Value.ownBlock] at hk, fun k hk => by
        rcases hk with (hk | hk | hk) | (hk | hk | hk)
        · omega
        · simp [Value.ownBlock] at hk
        · simp [Value.ownBlock] at hk
        · omega
        · simp [Value.ownBlock] at hk
        · omega⟩, sim0, Nat.le_refl _, hb3.trans ((Chg.refl (fun _ => False) w3).alloc _ |>.below (fun k hk => ⟨by omega, id⟩))⟩
      clear hb1 hs0 hb0 hc2 hR3 hb' hB' hc3 hw1 hw2 hw3 hb3 sim0 start
      obtain ⟨b1, hb1⟩ : ∃ x, x = w3.heap.size := ⟨_, rfl⟩
      rw [← hb1] at st2
      first
        | (rw [← hb1]; clear hb1)
        | (clear st2 hb1 b1; obtain ⟨b1, hb1⟩ : ∃ x, x = b0 := ⟨_, rfl⟩; rw [← hb1] at st1 ⊢; clear hb1)
      go_loopw [28] (fun i wr => ∃ k : Nat, k ≤ l.length ∧ i = .int .i64 k ∧ PInv w k wr b1 b') (fun i _ => l.length - (intOf i).toNat)
      case atStart => exact ⟨0, Nat.zero_le _, rfl, by first | exact st2 | exact st1⟩
      case round =>
        obtain ⟨k, hk, rfl, v1, v2, ends, charges, v1', B, begin_, ps, hB, hS, hel, hbel⟩ := hrel
        (try clear st2)
        clear st1
        by_cases hlt : k < l.length
        · obtain ⟨z, hz⟩ : ∃ z, z = l.getD k d3 := ⟨_, rfl⟩
          have hne : l ≠ [] := by rintro rfl; simp at hlt
          have hzm : z ∈ l := by rw [hz, List.getD_eq_getElem?_getD, List.getElem?_eq_getElem hlt]; exact List.getElem_mem _
          have hu := Go.bounds_u64 (hw z hzm).2.2
          obtain ⟨g, off, rfl, hgl, hcs⟩ := hr.below hbel hne
          obtain ⟨x0, x1, x2⟩ := hcs k hlt
          rw [← hz] at x0 x1 x2
          obtain ⟨z0, z1, z2⟩ := z
          clear hcs hgl hz hzm hw hr
          have hSd := Side.start hB hbel z0 z1 z2 34
          have hl5 : ends.length < 100000 := by omega
          clear hB hbel
          by_cases hz1 : z0 = 1
          · subst hz1
            have hc9 := charge_s hSd hS hu hl5
            go_wp2_with (first | (go_at_call 9; refine hc9.mono ?_; rintro e w5 ⟨v2', rfl, hSd5⟩; have x15 := hSd5.x1; have x25 := hSd5.x2) | (go_at_call 10; refine (rcharge_s hSd5 hS hu).mono ?_; rintro e w6 ⟨ps', rfl, hSd6, hS6⟩; have x16 := hSd6.x1; have x26 := hSd6.x2; have r06 := hSd6.bo.R.c0; have r16 := hSd6.bo.R.c1))
            obtain ⟨W, hW⟩ : ∃ W, W = w6 := ⟨_, rfl⟩
            have hF := hSd6
            have sF := hS6
            rw [← hW] at hF ⊢
            clear hW hSd hSd5 hSd6 hS hS6 hc9 x0 x1 x2 x15 x25 x16 x26 r06 r16 w5 hu w6 hne
            obtain ⟨bx, hbx⟩ : ∃ b, b = wr.heap.size := ⟨_, rfl⟩
            rw [← hbx] at hF ⊢
            clear hbx
            have kF := fun n => hF.keep ((Chg.refl (fun _ => False) W).drewN n)
            have hsp := fun n => span_c z1 (kF n).bo.S
            have hrs := fun n => rspan_any z1 _ b' _ _ _ _ (kF n).bo.R
            rw [sF.pos] at hrs
            have hln := fun n => len_any _ b1 _ _ _ _ (kF n).bo.S
            have hcd := fun n => charged_any z1 _ b1 _ _ _ _ (kF n).bo.S
            have lk := fun n => (kF n).bo.R.look z1
            rw [sF.g] at lk
            have q1 := hF.x1
            have q3 := hF.bo.R.c1
            obtain ⟨A9, n9, c9, q2, hn9⟩ := hF.ref_len sF
            rw [← hn9] at hln
            have fin : ∀ n, PInv w (k + 1) (W.drewN n) b1 b' := fun n => ⟨_, _, _, _, _, _, _, _, (kF n).bo, sF, by first | omega | (split <;> (try simp only [List.length_append, List.length_singleton]) <;> omega), (kF n).bel⟩
            have l9 := hF.bo.S.l1
            rw [← hn9] at l9
            clear hn9 hF kF sF
            have hws : IntKind.i64.wrap ((n9 : Int) + 1) = (n9 : Int) + 1 := IntWalk.i64_in _ (by omega)
            clear l9
            go_quiet ((first | (go_at_call 13; exact Calls.quiet_of_same ((hsp _).mono fun e w' h => ⟨h.1, h.2.symm⟩)) | (go_at_call 14; exact Calls.quiet_of_same ((hrs _).mono fun e w' h => ⟨h.1, h.2.symm⟩)) | (go_at_call 15; exact Calls.quiet_of_same ((hln _).mono fun e w' h => ⟨h.1, h.2.symm⟩)) | (go_at_call 16; exact Calls.quiet_of_same ((hcd _).mono fun e w' h => ⟨h.1, h.2.symm⟩))))
            go_wp2
            go_roundw
            case rel => exact ⟨k + 1, by omega, by go_num, fin _⟩
            case measure => simp [intOf]; omega
          · have hz1b : (z0 == 1) = false := by simpa using hz1
            by_cases hz2 : z0 = 2
            · subst hz2
              have hDd := hSd.keep ((Chg.refl (fun _ => False) _).drew)
              have y1 := hDd.x1
              have hc11 := end_s hDd hl5
              go_wp2
              go_region_held (fun w' => w'.cell? ⟨wr.heap.size, 1, none⟩ = some (.int .i64 z1)) (first | exact y1 | exact x15 | exact x16 | go_keep)
                (first | (go_at_call 11; refine hc11.mono ?_; rintro e w5 ⟨u1, rfl, hSd5⟩; have x15 := hSd5.x1) | (go_at_call 12; refine (rend_s hSd5 hS hl5).mono ?_; rintro e w6 ⟨u2, rfl, hSd6⟩; have x16 := hSd6.x1))
              all_goals
                have sF := hS.end_ z1
                obtain ⟨W, hW⟩ : ∃ W, W = w6 := ⟨_, rfl⟩
                have hF := hSd6
                rw [← hW] at hF ⊢
                clear hW hSd hSd5 hSd6 hS hc11 hDd y1 x0 x1 x2 x15 x16 hu hne
                obtain ⟨bx, hbx⟩ : ∃ b, b = wr.heap.size := ⟨_, rfl⟩
                rw [← hbx] at hF ⊢
                clear hbx
                go_wp2
                have kF := fun n => hF.keep ((Chg.refl (fun _ => False) W).drewN n)
                have hsp := fun n => span_c z1 (kF n).bo.S
                have hrs := fun n => rspan_any z1 _ b' _ _ _ _ (kF n).bo.R
                rw [sF.pos] at hrs
                have hln := fun n => len_any _ b1 _ _ _ _ (kF n).bo.S
                have hcd := fun n => charged_any z1 _ b1 _ _ _ _ (kF n).bo.S
                have lk := fun n => (kF n).bo.R.look z1
                rw [sF.g] at lk
                have q1 := hF.x1
                have q3 := hF.bo.R.c1
                obtain ⟨A9, n9, c9, q2, hn9⟩ := hF.ref_len sF
                rw [← hn9] at hln
                have fin : ∀ n, PInv w (k + 1) (W.drewN n) b1 b' := fun n => ⟨_, _, _, _, _, _, _, _, (kF n).bo, sF, by first | omega | (split <;> (try simp only [List.length_append, List.length_singleton]) <;> omega), (kF n).bel⟩
                have l9 := hF.bo.S.l1
                rw [← hn9] at l9
                clear hn9 hF kF sF
                have hws : IntKind.i64.wrap ((n9 : Int) + 1) = (n9 : Int) + 1 := IntWalk.i64_in _ (by omega)
                clear l9
                go_quiet ((first | (go_at_call 13; exact Calls.quiet_of_same ((hsp _).mono fun e w' h => ⟨h.1, h.2.symm⟩)) | (go_at_call 14; exact Calls.quiet_of_same ((hrs _).mono fun e w' h => ⟨h.1, h.2.symm⟩)) | (go_at_call 15; exact Calls.quiet_of_same ((hln _).mono fun e w' h => ⟨h.1, h.2.symm⟩)) | (go_at_call 16; exact Calls.quiet_of_same ((hcd _).mono fun e w' h => ⟨h.1, h.2.symm⟩))))
                go_wp2
                go_roundw
                case rel => exact ⟨k + 1, by omega, by go_num, fin _⟩
                case measure => simp [intOf]; omega
            · have hz2b : (z0 == 2) = false := by simpa using hz2
              obtain ⟨W, hW⟩ : ∃ W, W = wr.alloc (.cells #[.int .i64 z0, .int .i64 z1, .int .u64 z2] 34) := ⟨_, rfl⟩
              have hF := hSd
              have sF := hS
              rw [← hW] at hF
              clear hSd hS hz1 hz2 hu hne
              go_wp2
              rw [← hW]
              clear hW x0 x1 x2
              obtain ⟨bx, hbx⟩ : ∃ b, b = wr.heap.size := ⟨_, rfl⟩
              rw [← hbx] at hF ⊢
              clear hbx
              have kF := fun n => hF.keep ((Chg.refl (fun _ => False) W).drewN n)
              have hsp := fun n => span_c z1 (kF n).bo.S
              have hrs := fun n => rspan_any z1 _ b' _ _ _ _ (kF n).bo.R
              rw [sF.pos] at hrs
              have hln := fun n => len_any _ b1 _ _ _ _ (kF n).bo.S
              have hcd := fun n => charged_any z1 _ b1 _ _ _ _ (kF n).bo.S
              have lk := fun n => (kF n).bo.R.look z1
              rw [sF.g] at lk
              have q1 := hF.x1
              have q3 := hF.bo.R.c1
              obtain ⟨A9, n9, c9, q2, hn9⟩ := hF.ref_len sF
              rw [← hn9] at hln
              have fin : ∀ n, PInv w (k + 1) (W.drewN n) b1 b' := fun n => ⟨_, _, _, _, _, _, _, _, (kF n).bo, sF, by first | omega | (split <;> (try simp only [List.length_append, List.length_singleton]) <;> omega), (kF n).bel⟩
              have l9 := hF.bo.S.l1
              rw [← hn9] at l9
              clear hn9 hF kF sF
              have hws : IntKind.i64.wrap ((n9 : Int) + 1) = (n9 : Int) + 1 := IntWalk.i64_in _ (by omega)
              clear l9
              go_quiet ((first | (go_at_call 13; exact Calls.quiet_of_same ((hsp _).mono fun e w' h => ⟨h.1, h.2.symm⟩)) | (go_at_call 14; exact Calls.quiet_of_same ((hrs _).mono fun e w' h => ⟨h.1, h.2.symm⟩)) | (go_at_call 15; exact Calls.quiet_of_same ((hln _).mono fun e w' h => ⟨h.1, h.2.symm⟩)) | (go_at_call 16; exact Calls.quiet_of_same ((hcd _).mono fun e w' h => ⟨h.1, h.2.symm⟩))))
              go_wp2
              go_roundw
              case rel => exact ⟨k + 1, by omega, by go_num, fin _⟩
              case measure => simp [intOf]; omega
        · have hkn : k = l.length := by omega
          subst hkn
          clear hB hS
          go_wp2
          go_ret
          exact ⟨by simp, hbel⟩
  · have hr2 := hl
    clear hr hw
    go_enter Try.func3, Try.ntmps3
    go_wp2_with (first | (go_at_call 6; refine (awake_any _).mono ?_; rintro e w1 ⟨rfl, hb1⟩))
    go_ret
    rename_i wq hq _
    exact ⟨by simp, hq.trans (hb1.mono hq.size)⟩
end Go.Proofs.Ytpbiilndmcnnfaa
