/- The document's ledger: Withdraw. -/
import Derived.Test.YtpndkelbchjkiaaLr3
set_option linter.unusedVariables false
set_option linter.unusedSimpArgs false
namespace Go.Proofs.Ytpndkelbchjkiaa
open Go.RowKit Go.Ps
/-- A row of the document's chunks that the call has laid. -/
def RowC (w wr : World) (v : Value) (l : List (Int × Int)) : Prop := OwnF wr 94 2 fch v l ∧ Chg (fun _ => False) w wr ∧ ∀ j, v.ownBlock = some j → w.heap.size ≤ j
theorem RowC.push {w wr : World} {v : Value} {l : List (Int × Int)} (h : RowC w wr v l) (x : Int × Int) (hl : l.length ≤ 1000) : ∃ A' c' w2, (Builtin.append_ #[80, 80] 80 #[v, .slice (some ⟨wr.heap.size, 0, none⟩) 1 1]).run Try.prog (wr.alloc (.cells #[.int .u64 x.1, .int .i64 x.2] 94)) = .ok (.slice A' (l.length + 1) c') w2 ∧ RowC w w2 (.slice A' (l.length + 1) c') (l ++ [x]) := by
  obtain ⟨A', c', w2, hrun, ho, hg, hat⟩ := h.1.append1 (P := Try.prog) layC 80 Try.underlying80 info94 rfl x (by omega) (by omega)
  refine ⟨A', c', w2, hrun, ho, ?_, fun k hk => ?_⟩
  · exact h.2.1.trans ((Chg.refl (fun k => v.ownBlock = some k) wr).grown hg (fun k hk _ => hk)) (fun k hk e => by have := h.2.2 k e; omega)
  · rcases hat k hk with e | e
    · exact h.2.2 k e
    · exact Nat.le_trans h.2.1.size e
theorem RowC.keep {w wr wr' : World} {v : Value} {l : List (Int × Int)} (h : RowC w wr v l) (hC : Chg (fun _ => False) wr wr') : RowC w wr' v l := ⟨h.1.chg hC (fun _ _ => id), h.2.1.trans hC (fun _ _ h => h), h.2.2⟩
set_option maxRecDepth 20000 in
set_option maxHeartbeats 4000000 in
theorem rwithdraw_any {w : World} {g : Nat} {V : Value} {L : List Row} {s : S} (h : LS 79 82 94 S.hd2 w g V L s) (id era : Int) (hch : (s.acc.getD id.toNat a0).ch.length ≤ 900) :
    Calls Try.prog 45 #[.pointer (some ⟨g, 0, none⟩), .int .i64 id, .int .i64 era] w fun e w' => e = .returned (.tuple #[.int .u64 (s.withdraw id era).2.1, .int .i64 (s.withdraw id era).2.2]) ∧ Stp 79 82 94 S.hd2 w w' g V L (s.withdraw id era).1 := by
  unfold S.withdraw
  by_cases h0 : s.bad id
  · simp only [if_pos h0]
    have hf := there_no h h0
    have HL := Lib.hid h
    clear h hch h0
    go_enter Try.func45, Try.ntmps45
    go_wp2_with fail
    refine hf.mono ?_
    rintro e w1 ⟨rfl, rfl⟩
    go_wp2
    go_ret2
    exact ⟨rfl, Stp.refl HL.out (Chg.refl _ _)⟩
  · simp only [if_neg h0]
    have hf := there_yes h h0
    obtain ⟨m, rfl⟩ : ∃ m : Nat, id = (m : Int) := ⟨id.toNat, by unfold S.bad at h0; omega⟩
    have hm : m < s.acc.length := by unfold S.bad at h0; omega
    simp only [Int.toNat_natCast] at hch ⊢
    have hmL : m < L.length := by rw [h.len]; exact hm
    obtain ⟨b, c, A, cc, e1, e2, e3, hcells⟩ := h.cells hmL
    have hrow := h.at_.chs m hmL
    have hxx : (L.getD m r0).1 = s.acc.getD m a0 := by rw [← fst_getD, h.acc]
    rw [hxx, e2] at hrow
    obtain ⟨a, ha⟩ : ∃ a, a = s.acc.getD m a0 := ⟨_, rfl⟩
    rw [← ha] at hcells hch hrow e2 ⊢
    obtain ⟨n, hn⟩ : ∃ n, n = L.length := ⟨_, rfl⟩
    obtain ⟨cn, hcn⟩ : ∃ n, n = a.ch.length := ⟨_, rfl⟩
    rw [← hcn] at hcells hch hrow
    rw [← hn] at hcells hmL
    have HS := Lib.hid (⟨h, hm, e2, e3, ha, hn, hcn, hrow, hcells, hch⟩ : _ ∧ _ ∧ _ ∧ _ ∧ _ ∧ _ ∧ _ ∧ _ ∧ _ ∧ _)
    have hcb : cn ≤ 900 := hch
    obtain ⟨T, hT⟩ : ∃ T, T = wsum era 0 a.ch := ⟨_, rfl⟩
    rw [← hT]
    obtain ⟨z, hz⟩ : ∃ z, IntKind.u64.wrap (a.free + T) = z := ⟨_, rfl⟩
    rw [← wrap64u, hz]
    obtain ⟨fr, hfr⟩ : ∃ x, x = a.free := ⟨_, rfl⟩
    rw [← hfr] at hz
    have HT := Lib.hid (⟨hT, hz, hfr⟩ : _ ∧ _ ∧ _)
    obtain ⟨y0, y1, y2, y3, y4⟩ := hcells w (Chg.refl _ _)
    clear h h0 hm e2 e3 ha hn hcn hrow hcells hch hT hz hfr hxx e1
    go_enter Try.func45, Try.ntmps45
    go_wp2_with fail
    refine hf.mono ?_
    rintro e w1 ⟨rfl, rfl⟩
    clear hf
    go_wp2
    go_loopw [9, 10, 27] (fun nn lf i wr => ∃ (k : Nat) (A5 : Option Addr) (n5 c5 : Nat), k ≤ cn ∧ i = .int .i64 k ∧ nn = .int .u64 (wsum era 0 (a.ch.take k)) ∧ lf = .slice A5 n5 c5 ∧ Hid (RowC w wr (.slice A5 n5 c5) ((a.ch.take k).filter (fun x => decide (era < x.2))))) (fun _ _ i _ => cn - (intOf i).toNat)
    case atStart => exact ⟨0, none, 0, 0, by omega, rfl, by simp [wsum], rfl, Lib.hid ⟨OwnF.nil _ _ _ _, Chg.refl _ _, fun j hj => by cases hj⟩⟩
    case round =>
      obtain ⟨k, A5, n5, c5, hk, rfl, rfl, rfl, HK⟩ := hrel
      obtain ⟨h, hm, e2, e3, ha, hn, hcn, hrow, hcells, hch⟩ := HS.out
      obtain ⟨y0, y1, y2, y3, y4⟩ := hcells _ HK.out.2.1
      by_cases hk2 : k < cn
      · obtain ⟨bx, cx, e6, _, _, v0, v1, _⟩ := ownC_cells (hrow.chg HK.out.2.1 (fun _ _ => id)) (k := k) (by omega)
        rw [← hcn] at e6
        simp only [Value.slice.injEq] at e6
        obtain ⟨rfl, -, rfl⟩ := e6
        have hws : wsum era 0 (a.ch.take (k + 1)) = if era < (a.ch.getD k d0).2 then wsum era 0 (a.ch.take k) else (wsum era 0 (a.ch.take k) + (a.ch.getD k d0).1) % 18446744073709551616 := by rw [take_snocC a.ch k (by omega), wsum_snoc]
        have hfs : (a.ch.take (k + 1)).filter (fun x => decide (era < x.2)) = (a.ch.take k).filter (fun x => decide (era < x.2)) ++ [a.ch.getD k d0].filter (fun x => decide (era < x.2)) := by rw [take_snocC a.ch k (by omega), List.filter_append]
        have hpu := HK.out.push (a.ch.getD k d0) (by have := List.length_filter_le (fun x : Int × Int => decide (era < x.2)) (a.ch.take k); rw [List.length_take] at this; omega)
        obtain ⟨x, hx⟩ : ∃ x, x = a.ch.getD k d0 := ⟨_, rfl⟩
        rw [← hx] at v0 v1 hws hfs hpu
        obtain ⟨N0, hN0⟩ : ∃ N0, wsum era 0 (a.ch.take k) = N0 := ⟨_, rfl⟩
        rw [hN0] at hws ⊢
        obtain ⟨F0, hF0⟩ : ∃ F, F = (a.ch.take k).filter (fun x => decide (era < x.2)) := ⟨_, rfl⟩
        rw [← hF0] at hpu hfs HK
        have hn5 : n5 = F0.length := by obtain ⟨A', c', e, _⟩ := HK.out.1.form; simp only [Value.slice.injEq] at e; exact e.2.1
        clear h hm e2 e3 ha hn hcn hrow hcells hch hx hN0 hF0
        by_cases he : x.2 ≤ era
        · have hd : ¬ era < x.2 := by omega
          rw [if_neg hd] at hws
          rw [List.filter_cons_of_neg (by simpa using he), List.filter_nil, List.append_nil] at hfs
          obtain ⟨N1, hN1⟩ : ∃ N1, IntKind.u64.wrap (N0 + x.1) = N1 := ⟨_, rfl⟩
          rw [← wrap64u, hN1] at hws
          have HW := Lib.hid (⟨hws, hfs⟩ : _ ∧ _)
          clear hws hfs hpu hd
          go_wp2
          go_roundw
          case rel => exact ⟨k + 1, _, _, _, by omega, by go_num, by rw [HW.out.1], rfl, by rw [HW.out.2]; exact HK⟩
          case measure => simp [intOf]; omega
        · have hd : era < x.2 := by omega
          rw [if_pos hd] at hws
          rw [List.filter_cons_of_pos (by simpa using hd), List.filter_nil] at hfs
          obtain ⟨A', c', w2, hrun, hR2⟩ := hpu
          have HW := Lib.hid (⟨hws, hfs, hR2⟩ : _ ∧ _ ∧ _)
          rw [← hn5] at hrun
          rw [← hn5] at HW
          have hd2 : ¬ x.2 ≤ era := he
          clear hws hfs hR2 hd he hn5
          go_wp2_with (at_builtin; refine wpList_append_run rfl _ _ 80 rfl _ _ _ _ rfl rfl hrun ?_)
          go_roundw
          case rel => exact ⟨k + 1, _, _, _, by omega, by go_num, by rw [HW.out.1], rfl, by rw [HW.out.2.1]; exact Lib.hid HW.out.2.2⟩
          case measure => simp [intOf]; omega
      · have ek : k = cn := by omega
        subst ek
        rw [show a.ch.take k = a.ch by rw [hcn]; exact List.take_length] at HK ⊢
        obtain ⟨hT, hz, hfr⟩ := HT.out
        rw [← hT]
        have hO := HK.out.1
        have hx3 := h.at_.rows.chg HK.out.2.1 (fun _ _ => id)
        obtain ⟨b', _, cur3, q1, q2, q3, _, _, q6⟩ := hx3.at_ layA r0 (by omega)
        obtain rfl : b = b' := by have := e3.symm.trans q2; simpa using this
        have f3 := frozen_of q3 (m * 4 + 3)
        have f0 := frozen_of q3 (m * 4)
        have hS4 := Stp.setCh (m := m) hds2 h (by omega) e3 (HK.out.2.1.mono (fun _ _ h => h.elim)) hO (fun k hk => .inr (HK.out.2.2 k hk))
        rw [← ha] at hS4
        have hgd := getD_setA s.acc m { a with ch := a.ch.filter (fun x => decide (era < x.2)) } hm
        have hfin : Hid (Stp 79 82 94 S.hd2 w ((wr.setCell ⟨b, m * 4 + 3, none⟩ (.slice A5 n5 c5)).setCell ⟨b, m * 4, none⟩ (.int .u64 z)) g V L { s with acc := s.acc.set m { a with ch := a.ch.filter (fun x => decide (era < x.2)), free := z } }) := Lib.hid (by
          refine hS4.then (fun L' hL' hlen => ?_)
          have := Stp.put hds2 hL' (P := .acc m 0) ⟨by simpa using hm, by omega⟩ (fun _ _ => e3) z
          have he : S.put { s with acc := s.acc.set m { a with ch := a.ch.filter (fun x => decide (era < x.2)) } } z (.acc m 0) = { s with acc := s.acc.set m { a with ch := a.ch.filter (fun x => decide (era < x.2)), free := z } } := by
            show { s with acc := (s.acc.set m _).set m (Ac.put ((s.acc.set m _).getD m a0) z 0) } = _
            rw [hgd, List.set_set]
            rfl
          rw [he] at this
          simpa [adr] using this)
        rw [← hfr] at y1
        have y1' : (wr.setCell ⟨b, m * 4 + 3, none⟩ (.slice A5 n5 c5)).cell? ⟨b, m * 4, none⟩ = some (.int .u64 fr) := by rw [World.cell?_setCell_other _ _ _ _ (fun e => by simp at e)]; exact y1
        clear h hm e2 e3 ha hn hcn hrow hcells hch hT hfr hO hx3 q1 q2 q3 q6 hS4 hgd HK HS HT
        go_wp2
        go_ret2
        exact ⟨rfl, hfin.out⟩
end Go.Proofs.Ytpndkelbchjkiaa
