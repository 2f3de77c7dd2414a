/- Solutions: the program's Decode, walked. -/
import Derived.Test.YtcdbchdlenkdgaaSe
set_option linter.unusedVariables false
set_option linter.unusedSimpArgs false
namespace Go.Ps
def edge1 (s : List Int × Bool) : (Int × Int × Int) × (List Int × Bool) :=
  (((rnum s most31).1, (rnum (rnum s most31).2 most31).1, (rnum (rnum (rnum s most31).2 most31).2 mostU).1), (rnum (rnum (rnum s most31).2 most31).2 mostU).2)
theorem redges_succ (k : Nat) (s : List Int × Bool) : redges (k + 1) s = ((edge1 s).1 :: (redges k (edge1 s).2).1, (redges k (edge1 s).2).2) := rfl
theorem redges_snoc : ∀ (k : Nat) (s : List Int × Bool), redges (k + 1) s = ((redges k s).1 ++ [(edge1 (redges k s).2).1], (edge1 (redges k s).2).2)
  | 0, s => rfl
  | k + 1, s => by
    rw [redges_succ, redges_snoc k, redges_succ]
    simp
end Go.Ps
namespace Go.Proofs.Ytcdbchdlenkdgaa
open Go.RowKit Go.Ps

def SDecPost (r : Sol × Int) (w : World) (e : Ending) (w' : World) : Prop := ∃ A c B d, e = .returned (.tuple #[sv r.1 A c B d, .int .i64 r.2]) ∧ ReadsI w' .i64 A r.1.com ∧ Reads3 w' .i64 .i64 .u64 B r.1.edges ∧ r.1.com.length ≤ c ∧ r.1.edges.length ≤ d ∧ Chg (fun _ => False) w w'
theorem reads3_of {w : World} {A : Option Addr} {l : List (Int × Int × Int)} {c : Nat} (h : OwnF w 74 3 fE (.slice A l.length c) l) : Reads3 w .i64 .i64 .u64 A l := by
  intro hne
  obtain ⟨g, c', cur, hv, _, hg, _, _, hx⟩ := h.at_ layE d3 (List.length_pos_iff.2 hne)
  simp only [Value.slice.injEq] at hv
  refine ⟨g, 0, hv.1, heap_lt hg, fun i hi => ?_⟩
  rw [Nat.zero_add]
  exact ⟨by have := cell_of hg (i * 3 + 0) (v := .int .i64 (l.getD i d3).1) (by rw [hx i 0 hi (by decide)]; rfl); rwa [Nat.add_zero] at this, cell_of hg (i * 3 + 1) (by rw [hx i 1 hi (by decide)]; rfl), cell_of hg (i * 3 + 2) (by rw [hx i 2 hi (by decide)]; rfl)⟩
section
variable {w W : World} {g0 gr gc : Nat} {s : List Int × Bool} {x : Sol} {VA VB : Value}
theorem Ds.num2 (h : Ds w g0 gr gc s x VA VB W) (most : Int) (hm : 0 ≤ most ∧ most ≤ 18446744073709551615) : Calls Try.prog 49 #[.pointer (some ⟨gr, 0, none⟩), .int .u64 most] W (fun e W' => e = .returned (.int .u64 (rnum s most).1) ∧ Ds w g0 gr gc (rnum s most).2 x VA VB W' ∧ Chg (fun k => k = gr) W W') :=
  (number49_any W gr w.heap.size s most h.rd hm).mono fun e W' ⟨he, hr, hc⟩ => ⟨he, h.read hr hc, hc⟩
theorem Ds.form (h : Ds w g0 gr gc s x VA VB W) : ∃ A c B d, VA = .slice A x.com.length c ∧ VB = .slice B x.edges.length d ∧ ReadsI W .i64 A x.com ∧ Reads3 W .i64 .i64 .u64 B x.edges := by
  obtain ⟨A, c, hv, hra, hf, _⟩ := h.ownA.form
  obtain ⟨B, d, hvb, hd, hrb, hfb, _⟩ := h.ownB.form
  exact ⟨A, c, B, d, hv, hvb, hra, reads3_of (by have := h.ownB; rwa [hvb] at this)⟩
theorem Ds.bad (h : Ds w g0 gr gc s x VA VB W) {r : Sol × Int} {k : Int} (hr : r = (sol0, k)) : ∀ W', Chg (fun k => k = g0) W W' → SDecPost r w (.returned (.tuple #[sv sol0 none 0 none 0, .int .i64 k])) W' := fun W' hW' => by
  obtain ⟨n1, n2, n3, n4, n5, n6⟩ := h.ne
  subst hr
  exact ⟨none, 0, none, 0, rfl, fun h => absurd rfl h, fun h => absurd rfl h, Nat.le_refl _, Nat.le_refl _, h.chg.trans hW' (fun k hk e => by omega)⟩
theorem Ds.good (h : Ds w g0 gr gc s x VA VB W) {r : Sol × Int} (hr : r = (x, 0)) : ∃ A c B d, VA = .slice A x.com.length c ∧ VB = .slice B x.edges.length d ∧ ReadsI W .i64 A x.com ∧ Reads3 W .i64 .i64 .u64 B x.edges ∧ ∀ W', Chg (fun k => k = g0) W W' → SDecPost r w (.returned (.tuple #[sv x A c B d, .int .i64 0])) W' := by
  obtain ⟨A, c, hv, hra, hf, _⟩ := h.ownA.form
  obtain ⟨B, d, hvb, hd, hrb, hfb, _⟩ := h.ownB.form
  have hcl : x.com.length ≤ c := by
    rcases h.ownA.2 with ⟨hv', h0⟩ | ⟨g, cap, cur, hv', hbg, hgg, hnc, hcm, hcs, htake⟩ <;> rw [hv'] at hv <;> simp only [Value.slice.injEq] at hv <;> omega
  have h3 : Reads3 W .i64 .i64 .u64 B x.edges := reads3_of (by have := h.ownB; rwa [hvb] at this)
  obtain ⟨n1, n2, n3, n4, n5, n6⟩ := h.ne
  subst hr
  refine ⟨A, c, B, d, hv, hvb, hra, h3, fun W' hW' => ⟨A, c, B, d, rfl, ?_, ?_, hcl, hd, h.chg.trans hW' (fun k hk e => by omega)⟩⟩
  · exact hra.chg hW' (fun y hy e => (h.farA _ (hf y hy)).2.2.1 e)
  · exact h3.chg hW' (fun y hy e => (h.farB _ (hfb y hy)).1.2.2.1 e)
end
theorem decS_bad {l : List Int} (hl : l.length ≤ 20000) (h : (readS l).2.2 = true ∨ 0 < (readS l).2.1.length ∨ formedS (readS l).1 = false) : decS l = (sol0, 2) := by
  unfold decS
  rw [if_neg (by omega), if_pos h]
theorem decS_good {l : List Int} (hl : l.length ≤ 20000) (h1 : (readS l).2.2 = false) (h2 : (readS l).2.1.length = 0) (h3 : formedS (readS l).1 = true) : decS l = ((readS l).1, 0) := by
  unfold decS
  rw [if_neg (by omega), if_neg (by rw [h1, h2, h3]; simp)]
theorem _root_.Go.Ps.H.hasR_append {R : Value → World → Prop} {o : Oper} {a : Act} {w : World} (s x : Operand) (t : TypeId) (ho : o.op = .call { callee := .builtin .append, args := #[s, x], argTypes := #[t, t] }) (va vb v' : Value) (w' : World) (hs : a.eval s = va) (hx : a.eval x = vb)
    (hr : (Builtin.append_ #[t, t] o.type #[va, vb]).run Try.prog w = .ok v' w') (h : R v' w') : H.HasR Try.prog R ((execOp a.eval o).run Try.prog w) := by
  unfold execOp
  simp only [ho, resolve, invoke, builtin, Sem.run_bind, Sem.run_pure, Result.andThen_ok, List.map_toArray, List.map_cons, List.map_nil, hs, hx, hr]
  exact H.HasR.val h
set_option maxRecDepth 100000 in
set_option maxHeartbeats 4000000 in
theorem sdecode_any (w : World) (A : Option Addr) (c : Nat) (l : List Int) (hr : ReadsI w .u8 A l) (hb : Bytes l) (hl : l.length ≤ 20000000000) (hcap : l.length ≤ c) (hlow : l ≠ [] → ∀ a, A = some a → a.block < w.heap.size) : Calls Try.prog 33 #[.slice A l.length c] w (SDecPost (decS l) w) := by
  by_cases hlong : 20000 < l.length
  · have hd : decS l = (sol0, 4) := by unfold decS; rw [if_pos hlong]
    rw [hd]
    have fin : ∀ W, Chg (fun _ => False) w W → SDecPost (sol0, 4) w (.returned (.tuple #[sv sol0 none 0 none 0, .int .i64 4])) W := fun W hW => ⟨none, 0, none, 0, rfl, fun h => absurd rfl h, fun h => absurd rfl h, Nat.le_refl _, Nat.le_refl _, hW⟩
    have FIN := Lib.hid fin
    clear hr hb hlow hd fin
    go_enter Try.func33, Try.ntmps33
    go_wp2
    exact bodyPost_ret (v := .tuple #[sv sol0 none 0 none 0, .int .i64 4]) (by simp [results, Try.results33, go_sem, sv, sol0]) rfl (FIN.out _ (by repeat (first | (with_reducible exact Chg.refl _ _) | (with_reducible refine Chg.alloc ?_ _))))
  · obtain ⟨W0, hW0⟩ : ∃ W0, W0 = ((w.alloc (.cells #[.slice none 0 0, .slice none 0 0, .int .u64 0, .int .u64 0, .int .u64 0, .int .u64 0] 49)).alloc (.cells #[.slice A l.length c, .bool false] 78)).alloc (.cells #[.slice none 0 0, .slice none 0 0, .int .u64 0, .int .u64 0, .int .u64 0, .int .u64 0] 49) := ⟨_, rfl⟩
    obtain ⟨g0, hg0⟩ : ∃ g, g = w.heap.size := ⟨_, rfl⟩
    obtain ⟨gr, hgr⟩ : ∃ g, g = w.heap.size + 1 := ⟨_, rfl⟩
    obtain ⟨gc, hgc⟩ : ∃ g, g = w.heap.size + 1 + 1 := ⟨_, rfl⟩
    have hC0 : Chg (fun _ => False) w W0 := by rw [hW0]; exact (((Chg.refl _ w).alloc _).alloc _).alloc _
    have hD0 : Ds w g0 gr gc (l, false) sol0 (.slice none 0 0) (.slice none 0 0) W0 := by
      refine ⟨⟨A, c, ?_, hr.chg hC0 (fun _ _ => id), hcap, ⟨by omega, hlow⟩, hb, hl⟩, ?_, ?_, Own.nil _ _ _, OwnF.nil _ _ _ _, (fun k hk => by cases hk), (fun k hk => by cases hk), hC0, by omega⟩
      · rw [hW0]; exact heap_alloc_ne (heap_at _ _ _ (by simp; omega))
      · rw [hW0]; exact heap_at _ _ _ (by simp; omega)
      · rw [hW0]; exact heap_alloc_ne (heap_alloc_ne (heap_at _ _ _ (by omega)))
    obtain ⟨⟨n1, s1⟩, e1⟩ : ∃ r, r = rnum (l, false) 8 := ⟨_, rfl⟩
    have k1 := rnum_range (s := (l, false)) hb (m := 8) (by omega)
    have h49 := hD0.num 8 (by omega)
    rw [← e1] at k1 h49
    obtain ⟨k1a, k1b, hb1⟩ := k1
    simp only at k1a k1b hb1 h49
    obtain ⟨N1, rfl⟩ : ∃ N : Nat, n1 = (N : Int) := ⟨n1.toNat, by omega⟩
    have hgood := decS_good (l := l) (by omega)
    have hbad := decS_bad (l := l) (by omega)
    obtain ⟨D, hD⟩ : ∃ D, D = decS l := ⟨_, rfl⟩
    rw [← hD] at hgood hbad ⊢
    have HGOOD := Lib.hid hgood
    have HBAD := Lib.hid hbad
    have E1 := Lib.hid e1
    have HW0 := Lib.hid hW0
    have HG0 := Lib.hid hg0
    have HGR := Lib.hid hgr
    have HGC := Lib.hid hgc
    have H49 := Lib.hid h49
    clear hr hb hlow hD e1 hW0 hg0 hgr hgc hC0 hD0 h49 hgood hbad
    go_enter Try.func33, Try.ntmps33
    go_upto_region 5 with (fail)
    rw [← HW0.out, ← HGC.out, ← HGR.out, ← HG0.out]
    clear HW0 HGC HGR HG0
    go_wp2_with fail
    refine H49.out.mono ?_
    rintro e1 w1 ⟨rfl, hD1⟩
    have HD1 := Lib.hid hD1
    clear H49 hD1
    go_wp2_with fail
    go_loopw [6] (fun i wr => ∃ (j : Nat) (VA : Value) (ls : List Int) (s5 : List Int × Bool), j ≤ N1 ∧ i = .int .u64 ((N1 : Int) - j) ∧ Hid (rnums most31 j s1 = (ls, s5)) ∧ Hid (Ds w g0 gr gc s5 ⟨ls, [], 0, 0, 0, 0⟩ VA (.slice none 0 0) wr)) (fun i _ => (intOf i).toNat)
    case atStart => exact ⟨0, _, [], s1, by omega, by simp, Lib.hid rfl, HD1⟩
    case round =>
      obtain ⟨j, VA, ls, s5, hj, rfl, hrs, hD⟩ := hrel
      by_cases hj2 : j < N1
      · have hjI : (0 : Int) < (N1 : Int) - j := by omega
        have hjI2 : (N1 : Int) - j ≤ 8 := by omega
        have hls : ls.length = j := by have := rnums_length most31 j s1; rw [hrs.out] at this; exact this
        have hlsb : ls.length ≤ 1000 := by omega
        obtain ⟨⟨n, s6⟩, hxe⟩ : ∃ r, r = rnum s5 most31 := ⟨_, rfl⟩
        have hrs2 : Hid (rnums most31 (j + 1) s1 = (ls ++ [n], s6)) := Lib.hid (by rw [rnums_snoc, hrs.out]; simp only [← hxe])
        have hid := (hD.out.grow ((Chg.refl _ wr).drew)).id
        rw [← hxe] at hid
        simp only at hid
        have HID := Lib.hid hid
        have HLSB := Lib.hid hlsb
        have hc0 : (wr.drew).cell? ⟨gc, 0, none⟩ = some VA := (hD.out.grow ((Chg.refl _ wr).drew)).cells.1
        clear hxe hrs hls hlsb hid
        go_wp2_with fail
        refine H.wp_region_seq (fun W => W.cell? ⟨gc, 0, none⟩ = some VA) [(0, 0), (1, 0), (2, 0), (3, 1), (4, 1), (5, 1), (6, 0), (7, 1)] (by kernel_rfl) (by kernel_rfl) (by kernel_rfl) hc0 ?_
        apply H.look (by rfl) (by rfl); (focus (intro W hW; go_simp; exact HasV.val rfl)); simp only [Act.put, List.setIfInBounds_toArray, List.set_cons_zero, List.set_cons_succ]
        apply H.look (by rfl) (by rfl); (focus (intro W hW; go_simp; exact HasV.val rfl)); simp only [Act.put, List.setIfInBounds_toArray, List.set_cons_zero, List.set_cons_succ]
        apply H.look (by rfl) (by rfl); (focus (intro W hW; go_simp; exact HasV.val rfl)); simp only [Act.put, List.setIfInBounds_toArray, List.set_cons_zero, List.set_cons_succ]
        refine H.link (fun v W => v = .int .i64 n ∧ Hid (Ds w g0 gr gc s6 ⟨ls, [], 0, 0, 0, 0⟩ VA (.slice none 0 0) W)) (by rfl) (by rfl) ?_ (fun v W hR => hR.2.out.cells.1) ?_
        · go_simp
          refine H.HasR.call (HID.out.mono ?_)
          rintro e W ⟨rfl, hD7⟩
          exact ⟨_, rfl, rfl, Lib.hid hD7⟩
        rintro v w7 ⟨rfl, hD7⟩
        simp only [Act.put, List.setIfInBounds_toArray, List.set_cons_zero, List.set_cons_succ]
        obtain ⟨A8, n8, c8, w8, hrun, hv5, hf5, hD8⟩ := hD7.out.pushA n HLSB.out
        have HD8 := Lib.hid hD8
        have HRUN := Lib.hid hrun
        clear hD8 hrun
        refine H.link (fun v W => v = .slice (some ⟨w7.heap.size, 0, none⟩) 1 1 ∧ W = w7.alloc (.cells #[.int .i64 n] 3)) (by rfl) (by rfl) ?_ (fun v W hR => by rw [hR.2]; exact cell_of (heap_alloc_ne hD7.out.cell) 0 rfl) ?_
        · go_simp
          exact H.HasR.val ⟨rfl, rfl⟩
        rintro v W ⟨rfl, rfl⟩
        simp only [Act.put, List.setIfInBounds_toArray, List.set_cons_zero, List.set_cons_succ]
        refine H.link (fun v W => v = .slice A8 n8 c8 ∧ W = w8) (by rfl) (by rfl) ?_ (fun v W hR => by rw [hR.2]; exact hv5) ?_
        · exact H.hasR_append (.tmp 24) (.tmp 27) 44 rfl _ _ _ _ rfl rfl HRUN.out ⟨rfl, rfl⟩
        rintro v W ⟨rfl, hW⟩
        obtain rfl : w8 = W := hW.symm
        simp only [Act.put, List.setIfInBounds_toArray, List.set_cons_zero, List.set_cons_succ]
        apply H.look (by rfl) (by rfl); (focus (intro W hW; go_simp; exact HasV.val rfl)); simp only [Act.put, List.setIfInBounds_toArray, List.set_cons_zero, List.set_cons_succ]
        refine H.final (fun v W => v = undef ∧ W = w8.setCell ⟨gc, 0, none⟩ (.slice A8 n8 c8)) (by rfl) (by rfl) (by kernel_rfl) ?_ ?_
        · go_simp
          exact H.HasR.skip ⟨rfl, rfl⟩
        rintro v W ⟨rfl, rfl⟩
        simp only [Act.put, List.setIfInBounds_toArray, List.set_cons_zero, List.set_cons_succ]
        refine H.fin ?_
        clear hv5 hf5 hc0 HRUN hD7 HID
        go_wp2
        go_roundw
        case rel => exact ⟨j + 1, .slice A8 n8 c8, ls ++ [n], s6, by omega, by go_num, hrs2, HD8⟩
        case measure => simp [intOf]; omega
      · obtain rfl : j = N1 := by omega
        rw [Int.sub_self]
        obtain ⟨W5, hW5⟩ : ∃ W5, W5 = wr := ⟨_, rfl⟩
        subst hW5
        have hb5 := hD.out.rd.bytes
        have k3 := rnum_range (s := s5) hb5 (m := 256) (by omega)
        have h49 := hD.out.num 256 (by omega)
        obtain ⟨⟨n3, s3⟩, e3⟩ : ∃ r, r = rnum s5 256 := ⟨_, rfl⟩
        rw [← e3] at k3 h49
        obtain ⟨k3a, k3b, hb3⟩ := k3
        simp only at k3a k3b hb3 h49
        obtain ⟨N3, rfl⟩ : ∃ N : Nat, n3 = (N : Int) := ⟨n3.toNat, by omega⟩
        have E3 := Lib.hid e3
        have H49 := Lib.hid h49
        clear e3 h49 hb5 hD
        go_wp2_with fail
        refine H49.out.mono ?_
        rintro e2 w2 ⟨rfl, hD2⟩
        have HD2 := Lib.hid hD2
        clear H49 hD2
        have hrs0 := hrs.out
        have HRS := Lib.hid hrs0
        clear hrs hrs0
        go_wp2_with fail
        go_loopw [7] (fun i wr => ∃ (j : Nat) (VB : Value) (es : List (Int × Int × Int)) (s6 : List Int × Bool), j ≤ N3 ∧ i = .int .u64 ((N3 : Int) - j) ∧ Hid (redges j s3 = (es, s6)) ∧ Hid (Ds w g0 gr gc s6 ⟨ls, es, 0, 0, 0, 0⟩ VA VB wr)) (fun i _ => (intOf i).toNat)
        case atStart => exact ⟨0, _, [], s3, by omega, by simp, Lib.hid rfl, HD2⟩
        case round =>
          obtain ⟨j, VB, es, s6, hj, rfl, hre, hD⟩ := hrel
          by_cases hj2 : j < N3
          · have hjI : (0 : Int) < (N3 : Int) - j := by omega
            have hjI2 : (N3 : Int) - j ≤ 256 := by omega
            have hls : es.length = j := by have := redges_length j s3; rw [hre.out] at this; exact this
            have hlsb : es.length ≤ 1000 := by omega
            have hsn := redges_snoc j s3
            rw [hre.out] at hsn
            simp only at hsn
            unfold edge1 at hsn
            obtain ⟨⟨v1, t1⟩, hx1⟩ : ∃ r, r = rnum s6 most31 := ⟨_, rfl⟩
            rw [← hx1] at hsn
            simp only at hsn
            obtain ⟨⟨v2, t2⟩, hx2⟩ : ∃ r, r = rnum t1 most31 := ⟨_, rfl⟩
            rw [← hx2] at hsn
            simp only at hsn
            obtain ⟨⟨v3, t3⟩, hx3⟩ : ∃ r, r = rnum t2 mostU := ⟨_, rfl⟩
            rw [← hx3] at hsn
            simp only at hsn
            have HSN := Lib.hid hsn
            have HX1 := Lib.hid hx1
            have HX2 := Lib.hid hx2
            have HX3 := Lib.hid hx3
            have hid := (hD.out.grow ((Chg.refl _ wr).drew)).id
            rw [← hx1] at hid
            simp only at hid
            have HID := Lib.hid hid
            have HLSB := Lib.hid hlsb
            have hc0 : (wr.drew).cell? ⟨gc, 1, none⟩ = some VB := (hD.out.grow ((Chg.refl _ wr).drew)).cells.2.1
            clear hx1 hx2 hx3 hre hls hlsb hid hsn hD
            go_wp2_with fail
            refine H.wp_region_seq (fun W => W.cell? ⟨gc, 1, none⟩ = some VB) [(0, 0), (1, 0), (2, 0), (4, 0), (6, 0), (3, 1), (5, 1), (7, 1), (8, 0), (9, 1), (10, 1), (11, 0), (12, 1)] (by kernel_rfl) (by kernel_rfl) (by kernel_rfl) hc0 ?_
            apply H.look (by rfl) (by rfl); (focus (intro W hW; go_simp; exact HasV.val rfl)); simp only [Act.put, List.setIfInBounds_toArray, List.set_cons_zero, List.set_cons_succ]
            apply H.look (by rfl) (by rfl); (focus (intro W hW; go_simp; exact HasV.val rfl)); simp only [Act.put, List.setIfInBounds_toArray, List.set_cons_zero, List.set_cons_succ]
            apply H.look (by rfl) (by rfl); (focus (intro W hW; go_simp; exact HasV.val rfl)); simp only [Act.put, List.setIfInBounds_toArray, List.set_cons_zero, List.set_cons_succ]
            apply H.look (by rfl) (by rfl); (focus (intro W hW; go_simp; exact HasV.val rfl)); simp only [Act.put, List.setIfInBounds_toArray, List.set_cons_zero, List.set_cons_succ]
            apply H.look (by rfl) (by rfl); (focus (intro W hW; go_simp; exact HasV.val rfl)); simp only [Act.put, List.setIfInBounds_toArray, List.set_cons_zero, List.set_cons_succ]
            refine H.link (fun v W => v = .int .i64 v1 ∧ Hid (Ds w g0 gr gc t1 ⟨ls, es, 0, 0, 0, 0⟩ VA VB W)) (by rfl) (by rfl) ?_ (fun v W hR => hR.2.out.cells.2.1) ?_
            · go_simp
              refine H.HasR.call (HID.out.mono ?_)
              rintro e W ⟨rfl, hD7⟩
              exact ⟨_, rfl, rfl, Lib.hid hD7⟩
            rintro v w3 ⟨rfl, hD3⟩
            simp only [Act.put, List.setIfInBounds_toArray, List.set_cons_zero, List.set_cons_succ]
            have hid := hD3.out.id
            rw [← HX2.out] at hid
            have HID2 := Lib.hid hid
            clear hid HID
            refine H.link (fun v W => v = .int .i64 v2 ∧ Hid (Ds w g0 gr gc t2 ⟨ls, es, 0, 0, 0, 0⟩ VA VB W)) (by rfl) (by rfl) ?_ (fun v W hR => hR.2.out.cells.2.1) ?_
            · go_simp
              refine H.HasR.call (HID2.out.mono ?_)
              rintro e W ⟨rfl, hD7⟩
              exact ⟨_, rfl, rfl, Lib.hid hD7⟩
            rintro v w4 ⟨rfl, hD4⟩
            simp only [Act.put, List.setIfInBounds_toArray, List.set_cons_zero, List.set_cons_succ]
            have hid := hD4.out.num mostU (by unfold mostU; omega)
            rw [← HX3.out] at hid
            unfold mostU at hid
            have HID3 := Lib.hid hid
            clear hid HID2 hD3
            refine H.link (fun v W => v = .int .u64 v3 ∧ Hid (Ds w g0 gr gc t3 ⟨ls, es, 0, 0, 0, 0⟩ VA VB W)) (by rfl) (by rfl) ?_ (fun v W hR => hR.2.out.cells.2.1) ?_
            · go_simp
              refine H.HasR.call (HID3.out.mono ?_)
              rintro e W ⟨rfl, hD7⟩
              exact ⟨_, rfl, rfl, Lib.hid hD7⟩
            rintro v w7 ⟨rfl, hD7⟩
            simp only [Act.put, List.setIfInBounds_toArray, List.set_cons_zero, List.set_cons_succ]
            clear HID3 hD4
            apply H.look (by rfl) (by rfl); (focus (intro W hW; go_simp; exact HasV.val rfl)); simp only [Act.put, List.setIfInBounds_toArray, List.set_cons_zero, List.set_cons_succ]
            obtain ⟨A8, n8, c8, w8, hrun, hv5, hf5, hD8⟩ := hD7.out.pushB (v1, v2, v3) HLSB.out
            simp only at hrun hD8
            have HD8 := Lib.hid hD8
            have HRUN := Lib.hid hrun
            clear hD8 hrun
            refine H.link (fun v W => v = .slice (some ⟨w7.heap.size, 0, none⟩) 1 1 ∧ W = w7.alloc (.cells #[.int .i64 v1, .int .i64 v2, .int .u64 v3] 74)) (by rfl) (by rfl) ?_ (fun v W hR => by rw [hR.2]; exact cell_of (heap_alloc_ne hD7.out.cell) 1 rfl) ?_
            · go_simp
              exact H.HasR.val ⟨rfl, rfl⟩
            rintro v W ⟨rfl, rfl⟩
            simp only [Act.put, List.setIfInBounds_toArray, List.set_cons_zero, List.set_cons_succ]
            refine H.link (fun v W => v = .slice A8 n8 c8 ∧ W = w8) (by rfl) (by rfl) ?_ (fun v W hR => by rw [hR.2]; exact hv5) ?_
            · exact H.hasR_append (.tmp 37) (.tmp 45) 45 rfl _ _ _ _ rfl rfl HRUN.out ⟨rfl, rfl⟩
            rintro v W ⟨rfl, hW⟩
            obtain rfl : w8 = W := hW.symm
            simp only [Act.put, List.setIfInBounds_toArray, List.set_cons_zero, List.set_cons_succ]
            apply H.look (by rfl) (by rfl); (focus (intro W hW; go_simp; exact HasV.val rfl)); simp only [Act.put, List.setIfInBounds_toArray, List.set_cons_zero, List.set_cons_succ]
            refine H.final (fun v W => v = undef ∧ W = w8.setCell ⟨gc, 1, none⟩ (.slice A8 n8 c8)) (by rfl) (by rfl) (by kernel_rfl) ?_ ?_
            · go_simp
              exact H.HasR.skip ⟨rfl, rfl⟩
            rintro v W ⟨rfl, rfl⟩
            simp only [Act.put, List.setIfInBounds_toArray, List.set_cons_zero, List.set_cons_succ]
            refine H.fin ?_
            clear hv5 hf5 hc0 HRUN hD7
            go_wp2
            go_roundw
            case rel => exact ⟨j + 1, .slice A8 n8 c8, es ++ [(v1, v2, v3)], t3, by omega, by go_num, HSN, HD8⟩
            case measure => simp [intOf]; omega
          · obtain rfl : j = N3 := by omega
            rw [Int.sub_self]
            obtain ⟨W6, hW6⟩ : ∃ W6, W6 = wr := ⟨_, rfl⟩
            subst hW6
            have hread : ∀ q s, rnums mostU 4 s6 = (q, s) → readS l = (⟨ls, es, q.getD 0 0, q.getD 1 0, q.getD 2 0, q.getD 3 0⟩, s) := by
              intro q s hq
              unfold readS
              rw [← E1.out]
              simp only [Int.toNat_natCast]
              rw [HRS.out]
              simp only
              rw [← E3.out]
              simp only [Int.toNat_natCast]
              rw [hre.out]
              simp only
              rw [hq]
            have HREAD := Lib.hid hread
            have HD6 := Lib.hid hD.out
            obtain ⟨w7, hw7⟩ : ∃ w7, w7 = W6.alloc (.cells #[.pointer (some ⟨gc, 2, none⟩), .pointer (some ⟨gc, 3, none⟩), .pointer (some ⟨gc, 4, none⟩), .pointer (some ⟨gc, 5, none⟩)] 81) := ⟨_, rfl⟩
            have hp7 : w7.heap[W6.heap.size]? = some (.cells #[.pointer (some ⟨gc, 2, none⟩), .pointer (some ⟨gc, 3, none⟩), .pointer (some ⟨gc, 4, none⟩), .pointer (some ⟨gc, 5, none⟩)] 81 (0, 0)) := by rw [hw7]; exact heap_alloc_at _ _
            have hD7 : Ds w g0 gr gc s6 ⟨ls, es, 0, 0, 0, 0⟩ VA VB w7 := by rw [hw7]; exact hD.out.grow ((Chg.refl _ _).alloc _)
            have hne7 : W6.heap.size ≠ gr ∧ W6.heap.size ≠ gc := ⟨fun e => by have := hD.out.rd.lt; omega, fun e => by have := heap_lt hD.out.cell; omega⟩
            obtain ⟨gp, hgp⟩ : ∃ g, g = W6.heap.size := ⟨_, rfl⟩
            rw [← hgp] at hp7 hne7
            have HP7 := Lib.hid hp7
            have HD7 := Lib.hid hD7
            have HNE7 := Lib.hid hne7
            have HW7 := Lib.hid hw7
            have HGP := Lib.hid hgp
            clear hread hre hD hw7 hp7 hD7 hne7 hgp HRS E1 E3 HD6
            go_upto_region 14 with (fail)
            rw [← HW7.out, ← HGP.out]
            clear HW7 HGP
            go_loopw [58] (fun i wr => ∃ (kk : Nat) (q : List Int) (s : List Int × Bool), kk ≤ 4 ∧ i = .int .i64 kk ∧ Hid (q.length = kk) ∧ Hid (rnums mostU kk s6 = (q, s)) ∧ Hid (Ds w g0 gr gc s ⟨ls, es, q.getD 0 0, q.getD 1 0, q.getD 2 0, q.getD 3 0⟩ VA VB wr) ∧ Hid (wr.heap[gp]? = some (.cells #[.pointer (some ⟨gc, 2, none⟩), .pointer (some ⟨gc, 3, none⟩), .pointer (some ⟨gc, 4, none⟩), .pointer (some ⟨gc, 5, none⟩)] 81 (0, 0)))) (fun i _ => 4 - (intOf i).toNat)
            case atStart => exact ⟨0, [], s6, by omega, rfl, Lib.hid rfl, Lib.hid rfl, HD7, HP7⟩
            case round =>
              obtain ⟨kk, q, s, hkk, rfl, hq, hrn, hD, hp⟩ := hrel
              by_cases hk2 : kk < 4
              · have hnum := hD.out.num2 mostU (by unfold mostU; omega)
                obtain ⟨⟨n, s'⟩, hne⟩ : ∃ r, r = rnum s mostU := ⟨_, rfl⟩
                rw [← hne] at hnum
                simp only at hnum
                unfold mostU at hnum
                have hrn2 : Hid (rnums mostU (kk + 1) s6 = (q ++ [n], s')) := Lib.hid (by rw [rnums_snoc, hrn.out]; simp only [← hne])
                have HNUM := Lib.hid hnum
                have HP := Lib.hid hp.out
                have p0 : wr.cell? ⟨gp, 0, none⟩ = some (.pointer (some ⟨gc, 2, none⟩)) := cell_of hp.out 0 rfl
                have p1 : wr.cell? ⟨gp, 1, none⟩ = some (.pointer (some ⟨gc, 3, none⟩)) := cell_of hp.out 1 rfl
                have p2 : wr.cell? ⟨gp, 2, none⟩ = some (.pointer (some ⟨gc, 4, none⟩)) := cell_of hp.out 2 rfl
                have p3 : wr.cell? ⟨gp, 3, none⟩ = some (.pointer (some ⟨gc, 5, none⟩)) := cell_of hp.out 3 rfl
                have h4 : kk = 0 ∨ kk = 1 ∨ kk = 2 ∨ kk = 3 := by omega
                have hgpl := heap_lt hp.out
                have hgcl := heap_lt hD.out.cell
                have hgrl := hD.out.rd.lt
                have HDW := Lib.hid hD.out.chg
                clear hne hnum hrn hD hp
                rcases h4 with rfl | rfl | rfl | rfl
                · obtain rfl : q = [] := List.eq_nil_of_length_eq_zero hq.out
                  clear hq p1 p2 p3
                  go_wp2_with fail
                  refine HNUM.out.mono ?_
                  rintro e6 w9 ⟨rfl, hD9, hC9⟩
                  obtain ⟨c0, c1, c2, c3, c4, c5⟩ := hD9.cells
                  have f := hD9.frz 2
                  have hD10 := hD9.put (x' := ⟨ls, es, ([] ++ [n]).getD 0 0, ([] ++ [n]).getD 1 0, ([] ++ [n]).getD 2 0, ([] ++ [n]).getD 3 0⟩) 2 (.int .u64 n) rfl rfl rfl
                  have hp10 : Hid ((w9.setCell ⟨gc, 2, none⟩ (.int .u64 n)).heap[gp]? = some (.cells #[.pointer (some ⟨gc, 2, none⟩), .pointer (some ⟨gc, 3, none⟩), .pointer (some ⟨gc, 4, none⟩), .pointer (some ⟨gc, 5, none⟩)] 81 (0, 0))) := Lib.hid ((heap_setCell_ne HNE7.out.2 _).trans (chg_keep hC9 HP.out HNE7.out.1))
                  have HD10 := Lib.hid hD10
                  clear hD9 hD10 hC9
                  go_wp2
                  go_roundw
                  case rel => exact ⟨1, _, s', by omega, by go_num, Lib.hid (by rfl), hrn2, HD10, hp10⟩
                  case measure => simp [intOf]
                · obtain ⟨a0, rfl⟩ : ∃ a0 : Int, q = [a0] := by
                    match q, hq.out with
                    | [a0], _ => exact ⟨a0, rfl⟩
                  clear hq p0 p2 p3
                  go_wp2_with fail
                  refine HNUM.out.mono ?_
                  rintro e6 w9 ⟨rfl, hD9, hC9⟩
                  obtain ⟨c0, c1, c2, c3, c4, c5⟩ := hD9.cells
                  have f := hD9.frz 3
                  have hD10 := hD9.put (x' := ⟨ls, es, ([a0] ++ [n]).getD 0 0, ([a0] ++ [n]).getD 1 0, ([a0] ++ [n]).getD 2 0, ([a0] ++ [n]).getD 3 0⟩) 3 (.int .u64 n) rfl rfl rfl
                  have hp10 : Hid ((w9.setCell ⟨gc, 3, none⟩ (.int .u64 n)).heap[gp]? = some (.cells #[.pointer (some ⟨gc, 2, none⟩), .pointer (some ⟨gc, 3, none⟩), .pointer (some ⟨gc, 4, none⟩), .pointer (some ⟨gc, 5, none⟩)] 81 (0, 0))) := Lib.hid ((heap_setCell_ne HNE7.out.2 _).trans (chg_keep hC9 HP.out HNE7.out.1))
                  have HD10 := Lib.hid hD10
                  clear hD9 hD10 hC9
                  go_wp2
                  go_roundw
                  case rel => exact ⟨2, _, s', by omega, by go_num, Lib.hid (by rfl), hrn2, HD10, hp10⟩
                  case measure => simp [intOf]
                · obtain ⟨a0, a1, rfl⟩ : ∃ a0 a1 : Int, q = [a0, a1] := by
                    match q, hq.out with
                    | [a0, a1], _ => exact ⟨a0, a1, rfl⟩
                  clear hq p0 p1 p3
                  go_wp2_with fail
                  refine HNUM.out.mono ?_
                  rintro e6 w9 ⟨rfl, hD9, hC9⟩
                  obtain ⟨c0, c1, c2, c3, c4, c5⟩ := hD9.cells
                  have f := hD9.frz 4
                  have hD10 := hD9.put (x' := ⟨ls, es, ([a0, a1] ++ [n]).getD 0 0, ([a0, a1] ++ [n]).getD 1 0, ([a0, a1] ++ [n]).getD 2 0, ([a0, a1] ++ [n]).getD 3 0⟩) 4 (.int .u64 n) rfl rfl rfl
                  have hp10 : Hid ((w9.setCell ⟨gc, 4, none⟩ (.int .u64 n)).heap[gp]? = some (.cells #[.pointer (some ⟨gc, 2, none⟩), .pointer (some ⟨gc, 3, none⟩), .pointer (some ⟨gc, 4, none⟩), .pointer (some ⟨gc, 5, none⟩)] 81 (0, 0))) := Lib.hid ((heap_setCell_ne HNE7.out.2 _).trans (chg_keep hC9 HP.out HNE7.out.1))
                  have HD10 := Lib.hid hD10
                  clear hD9 hD10 hC9
                  go_wp2
                  go_roundw
                  case rel => exact ⟨3, _, s', by omega, by go_num, Lib.hid (by rfl), hrn2, HD10, hp10⟩
                  case measure => simp [intOf]
                · obtain ⟨a0, a1, a2, rfl⟩ : ∃ a0 a1 a2 : Int, q = [a0, a1, a2] := by
                    match q, hq.out with
                    | [a0, a1, a2], _ => exact ⟨a0, a1, a2, rfl⟩
                  clear hq p0 p1 p2
                  go_wp2_with fail
                  refine HNUM.out.mono ?_
                  rintro e6 w9 ⟨rfl, hD9, hC9⟩
                  obtain ⟨c0, c1, c2, c3, c4, c5⟩ := hD9.cells
                  have f := hD9.frz 5
                  have hD10 := hD9.put (x' := ⟨ls, es, ([a0, a1, a2] ++ [n]).getD 0 0, ([a0, a1, a2] ++ [n]).getD 1 0, ([a0, a1, a2] ++ [n]).getD 2 0, ([a0, a1, a2] ++ [n]).getD 3 0⟩) 5 (.int .u64 n) rfl rfl rfl
                  have hp10 : Hid ((w9.setCell ⟨gc, 5, none⟩ (.int .u64 n)).heap[gp]? = some (.cells #[.pointer (some ⟨gc, 2, none⟩), .pointer (some ⟨gc, 3, none⟩), .pointer (some ⟨gc, 4, none⟩), .pointer (some ⟨gc, 5, none⟩)] 81 (0, 0))) := Lib.hid ((heap_setCell_ne HNE7.out.2 _).trans (chg_keep hC9 HP.out HNE7.out.1))
                  have HD10 := Lib.hid hD10
                  clear hD9 hD10 hC9
                  go_wp2
                  go_roundw
                  case rel => exact ⟨4, _, s', by omega, by go_num, Lib.hid (by rfl), hrn2, HD10, hp10⟩
                  case measure => simp [intOf]
              · obtain rfl : kk = 4 := by omega
                have hx := HREAD.out q s hrn.out
                obtain ⟨W9, hW9⟩ : ∃ W9, W9 = wr := ⟨_, rfl⟩
                subst hW9
                obtain ⟨A1, c1, q1, q2, q3, q4, q5, q6⟩ := hD.out.rd
                have r0 : W9.cell? ⟨gr, 0, none⟩ = some (.slice A1 s.1.length c1) := cell_of q1 0 rfl
                have r1 : W9.cell? ⟨gr, 1, none⟩ = some (.bool s.2) := cell_of q1 1 rfl
                obtain ⟨c0, c1', c2, c3, c4, c5⟩ := hD.out.cells
                obtain ⟨z0, z1, z2, z3, z4, z5⟩ := read6 hD.out.zero
                have y0 := frozen_of hD.out.zero 0
                have y1 := frozen_of hD.out.zero 1
                have y2 := frozen_of hD.out.zero 2
                have y3 := frozen_of hD.out.zero 3
                have y4 := frozen_of hD.out.zero 4
                have y5 := frozen_of hD.out.zero 5
                obtain ⟨x, hxe⟩ : ∃ x : Sol, x = ⟨ls, es, q.getD 0 0, q.getD 1 0, q.getD 2 0, q.getD 3 0⟩ := ⟨_, rfl⟩
                rw [← hxe] at hD hx
                have hxf : ls = x.com ∧ es = x.edges ∧ q.getD 0 0 = x.mn ∧ q.getD 1 0 = x.sm ∧ q.getD 2 0 = x.hi ∧ q.getD 3 0 = x.lo := by rw [hxe]; exact ⟨rfl, rfl, rfl, rfl, rfl, rfl⟩
                simp only at c2 c3 c4 c5
                rw [hxf.2.2.1] at c2
                rw [hxf.2.2.2.1] at c3
                rw [hxf.2.2.2.2.1] at c4
                rw [hxf.2.2.2.2.2] at c5
                have HX := Lib.hid hx
                obtain ⟨n5, hn5⟩ : ∃ n, n = s.1.length := ⟨_, rfl⟩
                rw [← hn5] at r0
                have HN5 := Lib.hid hn5
                obtain ⟨A, c, B, d, rfl, rfl, hra, hrb⟩ := hD.out.form
                have HRAB := Lib.hid (And.intro hra hrb)
                clear hx hxe hxf hn5 q1 q2 q3 q4 q5 q6 hq hrn hp hra hrb HREAD HP7 HD7
                cases hs5 : s.2 with
                | true =>
                  rw [hs5] at r1
                  have FZ := Lib.hid (hD.out.bad (HBAD.out (by rw [HX.out]; exact Or.inl hs5)))
                  clear hs5
                  go_wp2
                  exact bodyPost_ret (v := .tuple #[sv sol0 none 0 none 0, .int .i64 2]) (by simp [results, Try.results33, go_sem, sv, sol0, z0, z1, z2, z3, z4, z5]) rfl (FZ.out _ (by repeat (first | (with_reducible exact Chg.refl _ _) | (with_reducible refine chg_set_g ?_ _ _))))
                | false =>
                  rw [hs5] at r1
                  by_cases h0 : 0 < n5
                  · have h0i : decide ((0 : Int) < (n5 : Int)) = true := decide_eq_true (by omega)
                    have FZ := Lib.hid (hD.out.bad (HBAD.out (by rw [HX.out]; exact Or.inr (Or.inl (by rw [HN5.out] at h0; exact h0)))))
                    clear hs5
                    go_wp2
                    exact bodyPost_ret (v := .tuple #[sv sol0 none 0 none 0, .int .i64 2]) (by simp [results, Try.results33, go_sem, sv, sol0, z0, z1, z2, z3, z4, z5]) rfl (FZ.out _ (by repeat (first | (with_reducible exact Chg.refl _ _) | (with_reducible refine chg_set_g ?_ _ _))))
                  · obtain rfl : n5 = 0 := by omega
                    have hfo := sformed_any x A c B d W9 HRAB.out.1 HRAB.out.2
                    unfold BoolPost sv at hfo
                    have HS5 := Lib.hid hs5
                    have HFO := Lib.hid hfo
                    clear hs5 hfo h0
                    go_wp2_with fail
                    refine HFO.out.mono ?_
                    rintro e7 w7 ⟨rfl, hC7⟩
                    have hD7 := hD.out.grow hC7
                    clear c0 c1' c2 c3 c4 c5 z0 z1 z2 z3 z4 z5 y0 y1 y2 y3 y4 y5 r0 r1
                    obtain ⟨z0, z1, z2, z3, z4, z5⟩ := read6 hD7.zero
                    have y0 := frozen_of hD7.zero 0
                    have y1 := frozen_of hD7.zero 1
                    have y2 := frozen_of hD7.zero 2
                    have y3 := frozen_of hD7.zero 3
                    have y4 := frozen_of hD7.zero 4
                    have y5 := frozen_of hD7.zero 5
                    cases hfm : formedS x with
                    | false =>
                      have FZ := Lib.hid (hD7.bad (HBAD.out (by rw [HX.out]; exact Or.inr (Or.inr hfm))))
                      clear hfm hC7 hD7 HFO
                      go_wp2
                      exact bodyPost_ret (v := .tuple #[sv sol0 none 0 none 0, .int .i64 2]) (by simp [results, Try.results33, go_sem, sv, sol0, z0, z1, z2, z3, z4, z5]) rfl (FZ.out _ (by repeat (first | (with_reducible exact Chg.refl _ _) | (with_reducible refine chg_set_g ?_ _ _))))
                    | true =>
                      obtain ⟨c0, c1', c2, c3, c4, c5⟩ := hD7.cells
                      obtain ⟨A', c', B', d', hva, hvb, _, _, hfin⟩ := hD7.good (r := D) (by have := HGOOD.out (by rw [HX.out]; exact HS5.out) (by rw [HX.out]; exact HN5.out.symm) (by rw [HX.out]; exact hfm); rw [this, HX.out])
                      cases hva
                      cases hvb
                      have FZ := Lib.hid hfin
                      clear hfm hC7 hD7 HFO hfin
                      go_wp2
                      exact bodyPost_ret (v := .tuple #[sv x A c B d, .int .i64 0]) (by simp [results, Try.results33, go_sem, sv, z0, z1, z2, z3, z4, z5]) rfl (FZ.out _ (by repeat (first | (with_reducible exact Chg.refl _ _) | (with_reducible refine chg_set_g ?_ _ _))))
end Go.Proofs.Ytcdbchdlenkdgaa
