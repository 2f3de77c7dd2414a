/- Solutions: the reference's Encode. -/
import Derived.Test.YtcdbchdlenkdgaaSb
import Derived.Test.YtcdbchdlenkdgaaSc
import Derived.Test.YtcdbchdlenkdgaaRg
import Derived.Test.YtcdbchdlenkdgaaSn
set_option linter.unusedVariables false
set_option linter.unusedSimpArgs false
namespace Go.Proofs.Ytcdbchdlenkdgaa
open Go.RowKit Go.Ps

/-- A row of bytes that grows beside another row. -/
structure Two (w wr : World) (A : Option Addr) (n c : Nat) (M : List Int) (B : Option Addr) (T : List Int) : Prop where
  own : Own wr 5 .u8 (.slice A n c) M
  len : n = M.length
  reads : ReadsI wr .u64 B T
  chg : Chg (fun _ => False) w wr
  far : ∀ k, (Value.slice A n c).ownBlock = some k → w.heap.size ≤ k ∧ (∀ x, B = some x → x.block ≠ k)
  low : T ≠ [] → ∀ x, B = some x → x.block < wr.heap.size
theorem Two.grow {w wr w6 : World} {A : Option Addr} {n c : Nat} {M : List Int} {B : Option Addr} {T : List Int} (h : Two w wr A n c M B T) (hc : Chg (fun _ => False) wr w6) : Two w w6 A n c M B T :=
  ⟨h.own.chg hc (fun _ _ => id), h.len, h.reads.chg hc (fun _ _ => id), chg_trans h.chg hc, h.far, fun hne x hx => Nat.lt_of_lt_of_le (h.low hne x hx) hc.size⟩
theorem Two.app {w wr : World} {A C : Option Addr} {n c N cC : Nat} {M x : List Int} {B : Option Addr} {T : List Int} (h : Two w wr A n c M B T) (hN : x.length = N) (hr : ReadsI wr .u8 C x) (hb : n + N ≤ 200000000000000) (hT : T ≠ []) :
    ∃ A2 c2 n2 w2, (Builtin.append_ #[22, 22] 22 #[.slice A n c, .slice C N cC]).run Try.prog wr = .ok (.slice A2 n2 c2) w2 ∧ Two w w2 A2 n2 c2 (M ++ x) B T := by
  subst hN
  have hl := h.len
  subst hl
  obtain ⟨A', c', w2, h1, h2, h3, h4⟩ := h.own.appendW (P := Try.prog) 22 Try.underlying22 info5 cC hr (by omega) (by omega)
  have hc : Chg (fun k => (Value.slice A M.length c).ownBlock = some k) wr w2 := (Chg.refl _ wr).grown h3 (fun k hk _ => hk)
  refine ⟨A', c', _, w2, h1, h2, by rw [List.length_append], h.reads.chg hc (fun a ha e => (h.far _ e).2 a ha rfl), h.chg.trans hc (fun k hk e => by have := (h.far k e).1; omega), fun k hk => ?_, fun hne x hx => Nat.lt_of_lt_of_le (h.low hne x hx) hc.size⟩
  rcases h4 with e | e
  · rw [e] at hk
    exact h.far k hk
  · rw [e] at hk
    cases hk
    exact ⟨h.chg.size, fun x hx e => by have := h.low hT x hx; omega⟩
theorem hasV_app {S : World → Prop} {o : Oper} {a : Act} {w : World} (s x : Operand) (t : TypeId) (ho : o.op = .call { callee := .builtin .append, args := #[s, x], argTypes := #[t, t] }) (va vb v' : Value) (w' : World) (hs : a.eval s = va) (hx : a.eval x = vb)
    (hr : (Builtin.append_ #[t, t] o.type #[va, vb]).run Try.prog w = .ok v' w') (h : S w') : HasV Try.prog S v' ((execOp a.eval o).run Try.prog w) := by
  unfold execOp
  simp only [ho, resolve, invoke, builtin, Sem.run_bind, Sem.run_pure, Result.andThen_ok, List.map_toArray, List.map_cons, List.map_nil, hs, hx, hr]
  exact HasV.val h
theorem mem_end {P : Program} {ops : Array Oper} {md : Region.Mode} {ks : List Nat} {ww : Nat → World} {Q : Act → Prop} {k : Nat} {a : Act} (h : Q a) : G.wpDet P ops md (G.Stage ks ww) Q k [] a := h
set_option maxRecDepth 100000 in
set_option maxHeartbeats 4000000 in
theorem rsencode_any (x : Sol) (A : Option Addr) (c : Nat) (B : Option Addr) (d : Nat) (w : World) (hx : x.ok) (hA : ReadsI w .i64 A x.com) (hB : Reads3 w .i64 .i64 .u64 B x.edges) : Calls Try.prog 30 #[sv x A c B d] w (SEncPost x w) := by
  have hfo := fun W h1 h2 => rsformed_any x A c B d W h1 h2
  by_cases hf : formedS x = true
  · have hcom := formed_com hf
    have hedge := formed_edge hf
    have htu := tailNums_u64 hx hf
    have htl := tailNums_length x
    have hes := encS_split x
    have hst := edgeNums_step x
    have hel := edgeNums_length x
    have hten : tailNums x = edgeNums x x.edges.length ++ [x.mn, x.sm, x.hi, x.lo] := rfl
    have he0 : edgeNums x 0 = [(x.edges.length : Int)] := rfl
    obtain ⟨h8, h256, _, _⟩ := (formedS_iff x).1 hf
    have fin : ∀ W v, NewB w W v (encS x) → SEncPost x w (.returned (.tuple #[v, .int .i64 0])) W := fun W v h => ⟨v, by rw [if_pos hf], by rw [if_pos hf]; exact h⟩
    obtain ⟨T, hT⟩ : ∃ T, T = tailNums x := ⟨_, rfl⟩
    obtain ⟨EN, hEN⟩ : ∃ EN, EN = edgeNums x := ⟨_, rfl⟩
    rw [hes] at fin
    rw [← hT] at fin htu htl hten
    rw [← hEN] at hst hel hten he0
    unfold BoolPost at hfo
    rw [hf] at hfo
    obtain ⟨com, edges, mn, sm, hi, lo⟩ := x
    obtain ⟨_, hu2, u3, u4, u5, u6⟩ := hx
    unfold sv at *
    simp only at *
    obtain ⟨w1, hw1⟩ : ∃ w1, w1 = w.alloc (.cells #[.slice A com.length c, .slice B edges.length d, .int .u64 mn, .int .u64 sm, .int .u64 hi, .int .u64 lo] 49) := ⟨_, rfl⟩
    have hC1 : Chg (fun _ => False) w w1 := by rw [hw1]; exact (Chg.refl _ _).alloc _
    have hg1 : w1.heap[w.heap.size]? = some (.cells #[.slice A com.length c, .slice B edges.length d, .int .u64 mn, .int .u64 sm, .int .u64 hi, .int .u64 lo] 49) := by rw [hw1]; exact heap_alloc_at _ _
    obtain ⟨g, hg⟩ : ∃ g, g = w.heap.size := ⟨_, rfl⟩
    rw [← hg] at hg1
    obtain ⟨c0, c1, c2, c3, c4, c5⟩ := read6 hg1
    have hfo := hfo w1 (hA.chg hC1 (fun _ _ => id)) (hB.chg hC1 (fun _ _ => id))
    have HFO := Lib.hid hfo
    have HW := Lib.hid hw1
    have HC1 := Lib.hid hC1
    have HG := Lib.hid hg1
    have HA := Lib.hid hA
    have HB := Lib.hid hB
    have HGE := Lib.hid hg
    have HCOM := Lib.hid hcom
    have HEDGE := Lib.hid hedge
    have HU2 := Lib.hid hu2
    have HTU := Lib.hid htu
    have HTL := Lib.hid htl
    have HTEN := Lib.hid hten
    have HST := Lib.hid hst
    have HEL := Lib.hid hel
    have HE0 := Lib.hid he0
    have FIN := Lib.hid fin
    clear hw1 hC1 hg1 hA hB hg hcom hedge hu2 htu htl hten hst hel he0 fin hfo hf hes hT hEN
    go_enter Try.func30, Try.ntmps30
    go_upto_region 1 with (fail)
    rw [← HW.out, ← HGE.out]
    clear HW HGE
    go_wp2_with fail
    refine HFO.out.mono ?_
    rintro e2 w2 ⟨rfl, hC2⟩
    have hCC := chg_trans HC1.out hC2
    have hg2 := chg_heap hC2 HG.out
    have HC2 := Lib.hid hCC
    have HG2 := Lib.hid hg2
    clear hC2 hCC c0 c1 c2 c3 c4 c5 HFO
    obtain ⟨c0, c1, c2, c3, c4, c5⟩ := read6 hg2
    clear hg2
    go_wp2
    go_loopw [4, 15] (fun v i wr => ∃ (k n : Nat) (A3 : Option Addr) (c3 : Nat), k ≤ com.length ∧ i = .int .i64 k ∧ v = .slice A3 n c3 ∧ Hid (n = (com.take k).length) ∧ Hid (New 24 .u64 w2 wr (.slice A3 n c3) (com.take k))) (fun _ i _ => com.length - (intOf i).toNat)
    case atStart => exact ⟨0, 0, none, 0, by omega, rfl, rfl, Lib.hid (by simp), Lib.hid (New.nil _ _ _)⟩
    case round =>
      obtain ⟨k, n, A3, cc3, hk, rfl, rfl, hn, hN⟩ := hrel
      clear c0 c1 c2 c3 c4 c5
      obtain ⟨c0, c1, c2, c3, c4, c5⟩ := read6 (chg_heap hN.out.2.1 HG2.out)
      by_cases hk2 : k < com.length
      · obtain ⟨ga, oa, rfl, hxx⟩ := (HA.out.chg (chg_trans HC2.out hN.out.2.1) (fun _ _ => id)).plain (by rintro rfl; simp at hk2)
        have p1 := hxx k hk2
        have hts := take_snoc com k hk2
        obtain ⟨p, hp⟩ : ∃ p, p = com.getD k 0 := ⟨_, rfl⟩
        have hpm : p ∈ com := by rw [hp, List.getD_eq_getElem?_getD, List.getElem?_eq_getElem hk2]; exact List.getElem_mem hk2
        obtain ⟨⟨hp0, _⟩, hp31⟩ := HCOM.out p hpm
        rw [← hp] at p1 hts
        have hnk : n ≤ 8 := by have := hn.out; rw [List.length_take] at this; omega
        have hwp := u64wrap (n := p) (by omega)
        obtain ⟨A4, c4', w4, hap, hN4⟩ := New.push hN.out Try.underlying29 info24 hn.out.symm p (by omega) (by omega)
        rw [← hts] at hN4
        have HN4 := Lib.hid hN4
        have hn4 : Hid (n + 1 = (com.take (k + 1)).length) := Lib.hid (by rw [hts, List.length_append, List.length_singleton]; have := hn.out; omega)
        clear hN4 hts hp hpm hxx
        go_wp2_with (at_builtin; refine wpList_append_run rfl (.tmp 18) (.tmp 25) 29 rfl _ _ _ _ rfl rfl hap ?_)
        go_roundw
        case rel => exact ⟨k + 1, n + 1, A4, c4', by omega, by go_num, rfl, hn4, HN4⟩
        case measure => simp [intOf]; omega
      · obtain rfl : k = com.length := by omega
        rw [List.take_length] at hn hN
        obtain ⟨_, _, he, hr3⟩ := New.form hN.out
        cases he
        have h25 := rlist_any wr A3 cc3 com hr3 (fun n hn => (HCOM.out n hn).1) (by omega)
        have HN3 := Lib.hid hN.out
        clear hN hn hr3
        go_wp2_with fail
        refine h25.mono ?_
        rintro e5 w5 ⟨v5, rfl, hN5⟩
        obtain ⟨A5, n5, d5, rfl, hn5, hr5⟩ := New.form3 hN5
        have hg5 := chg_heap hN5.2.1 (chg_heap HN3.out.2.1 HG2.out)
        have hC5 := chg_trans (chg_trans HC2.out HN3.out.2.1) hN5.2.1
        obtain ⟨en, hen⟩ : ∃ n, n = edges.length := ⟨_, rfl⟩
        have hN6 : New 24 .u64 w5 (w5.alloc (.cells #[.int .u64 (en : Int)] 24)) (.slice (some ⟨w5.heap.size, 0, none⟩) 1 1) [(en : Int)] := new_lit24 w5 [(en : Int)] (by simp)
        obtain ⟨w6, hw6⟩ : ∃ w6, w6 = w5.alloc (.cells #[.int .u64 (en : Int)] 24) := ⟨_, rfl⟩
        obtain ⟨g6, hg6⟩ : ∃ g6, g6 = w5.heap.size := ⟨_, rfl⟩
        have hg6b := heap_alloc_ne (o := .cells #[.int .u64 (en : Int)] 24) hg5
        rw [← hw6, ← hg6] at hN6
        rw [← hw6] at hg6b
        rw [hen, ← HE0.out] at hN6
        have HN6 := Lib.hid hN6
        have HC5 := Lib.hid hC5
        have HN5 := Lib.hid hN5
        have HR5 := Lib.hid hr5
        have HL5 := Lib.hid hn5
        have HG5 := Lib.hid hg5
        have HW6 := Lib.hid hw6
        have HG6 := Lib.hid hg6
        have hwe := u64wrap (n := (en : Int)) (by omega)
        rw [hen] at hwe
        clear h25 hN5 hr5 hn5 hg5 hC5 hN6 hw6 hg6 c0 c1 c2 c3 c4 c5
        obtain ⟨x0, x1, x2, x3, x4, x5⟩ := read6 hg6b
        obtain ⟨c0, c1, c2, c3, c4, c5⟩ := read6 HG5.out
        clear hg6b
        simp only []
        go_upto_region 11 with (fail)
        rw [← hen, ← HW6.out, ← HG6.out]
        subst hen
        clear HW6 HG6 c0 c1 c2 c3 c4 c5
        go_wp2
        go_loopw [4, 38] (fun v i wr => ∃ (k n : Nat) (A3 : Option Addr) (c3 : Nat), k ≤ edges.length ∧ i = .int .i64 k ∧ v = .slice A3 n c3 ∧ Hid (n = (EN k).length) ∧ Hid (New 24 .u64 w5 wr (.slice A3 n c3) (EN k))) (fun _ i _ => edges.length - (intOf i).toNat)
        case atStart => exact ⟨0, 1, some ⟨g6, 0, none⟩, 1, by omega, rfl, rfl, Lib.hid (by rw [HE0.out]; rfl), HN6⟩
        case round =>
          obtain ⟨k, n, A6, cc6, hk, rfl, rfl, hn, hN⟩ := hrel
          clear x0 x1 x2 x3 x4 x5
          by_cases hk2 : k < edges.length
          · obtain ⟨gb, ob, rfl, hxx⟩ := (HB.out.chg (chg_trans HC5.out hN.out.2.1) (fun _ _ => id)).plain (by omega)
            obtain ⟨e1, e2, e3⟩ := hxx k hk2
            have hbl := World.block_lt_of_cell? wr _ e1
            simp only at hbl
            obtain ⟨x0, x1, x2, x3, x4, x5⟩ := read6 (chg_heap hN.out.2.1 HG5.out)
            have hst := HST.out k hk2
            have hlk := HEL.out k hk
            obtain ⟨⟨v, cc, u⟩, hp⟩ : ∃ p, p = edges.getD k d3 := ⟨_, rfl⟩
            have hpm : (v, cc, u) ∈ edges := by rw [hp, List.getD_eq_getElem?_getD, List.getElem?_eq_getElem hk2]; exact List.getElem_mem hk2
            obtain ⟨⟨⟨hv0, _⟩, hv1⟩, ⟨⟨hc0, _⟩, hc1⟩, _⟩ := HEDGE.out _ hpm
            rw [← hp] at e1 e2 e3 hst
            simp only at e1 e2 e3 hst hv0 hv1 hc0 hc1
            have hwv := u64wrap (n := v) (by omega)
            have hwc := u64wrap (n := cc) (by omega)
            obtain ⟨A7, c7', w7, hap, hN7⟩ := New.app (P := Try.prog) (t := 29) (cB := 3) (B := some ⟨wr.heap.size, 0, none⟩) (x := [v, cc, u]) (hN.out.chg ((Chg.refl _ _).alloc (.cells #[.int .u64 v, .int .u64 cc, .int .u64 u] 24)).drew) Try.underlying29 info24 hn.out.symm (ReadsI.of_block (t := 24) (fr := (0, 0)) (heap_alloc_at _ _)) (by simp; have := hn.out; omega) (by omega)
            simp only [List.length_cons, List.length_nil, Nat.zero_add] at hap hN7
            rw [← hst] at hN7
            have HN7 := Lib.hid hN7
            have hn7 : Hid (n + (1 + 1 + 1) = (EN (k + 1)).length) := Lib.hid (by rw [hst, List.length_append]; have := hn.out; simp; omega)
            obtain ⟨ww, h0, h1, h2⟩ : ∃ ww : Nat → World, ww 0 = wr.drew ∧ ww 1 = (wr.alloc (.cells #[.int .u64 v, .int .u64 cc, .int .u64 u] 24)).drew ∧ ∀ j, ww (j + 2) = w7 := ⟨fun j => match j with | 0 => _ | 1 => _ | j + 2 => _, rfl, rfl, fun _ => rfl⟩
            have hgr : g < wr.heap.size := heap_lt (chg_heap hN.out.2.1 HG5.out)
            have HAP := Lib.hid hap
            have HH := Lib.hid (And.intro e1 (And.intro e2 e3))
            have hw5 : w5.heap.size ≤ wr.heap.size := hN.out.2.1.size
            have hg5 : g < w5.heap.size := heap_lt HG5.out
            have hb5 : gb < w5.heap.size := by
              obtain ⟨b', o', he', hlt', _⟩ := (HB.out.chg HC5.out (fun _ _ => id)) (by rintro rfl; simp at hk2)
              cases he'
              exact hlt'
            have hk5 : ∀ j, Chg (fun i => w5.heap.size ≤ i) w5 (ww j) := fun j => by
              rcases j with _ | _ | j
              · rw [h0]; exact hN.out.2.1.drew.weak
              · rw [h1]; exact (hN.out.2.1.alloc _).drew.weak
              · rw [h2]; exact HN7.out.2.1.weak
            have hx5 := (HB.out.chg HC5.out (fun _ _ => id)).plain (by omega)
            obtain ⟨gb', ob', hge', hx5⟩ := hx5
            cases hge'
            have hx5 := hx5 k hk2
            rw [← hp] at hx5
            simp only at hx5
            have hp0 := fun j => chg_cell (hk5 j) hx5.1 (by simp only; omega)
            have hp1 := fun j => chg_cell (hk5 j) hx5.2.1 (by simp only; omega)
            have hp2 := fun j => chg_cell (hk5 j) hx5.2.2 (by simp only; omega)
            have hpg := fun j => chg_cell (hk5 j) (cell_of HG5.out 1 rfl) (by simp only; omega)
            have H0 := Lib.hid h0
            have H1 := Lib.hid h1
            have H2 := Lib.hid h2
            clear hN7 hst hlk hp hpm hxx e1 e2 e3 hap h0 h1 h2 hk5 hx5 x0 x1 x2 x3 x4 x5 hbl hgr hw5 hg5 hb5
            have HP := Lib.hid (And.intro hp0 (And.intro hp1 (And.intro hp2 hpg)))
            clear hp0 hp1 hp2 hpg
            go_upto_region 14 with (fail)
            have hp0 := HP.out.1
            have hp1 := HP.out.2.1
            have hp2 := HP.out.2.2.1
            have hpg := HP.out.2.2.2
            refine G.wp_region_mem [21, 22] ww (by kernel_rfl) (by kernel_rfl) (by kernel_rfl) H0.out ?_
            iterate 21 (apply G.mem_step (by rfl) (by rfl); (focus (intro j hj; have q0 := hp0 j; have q1 := hp1 j; have q2 := hp2 j; have q3 := hpg j; go_simp; exact HasV.val rfl)); simp only [Act.put, List.setIfInBounds_toArray, List.set_cons_zero, List.set_cons_succ])
            apply G.mem_do 0 (by rfl) (by rfl) (by rfl) (.inl rfl) (by rfl)
            · rw [H0.out]
              go_simp
              exact HasV.val H1.out.symm
            simp only [Act.put, List.setIfInBounds_toArray, List.set_cons_zero, List.set_cons_succ]
            apply G.mem_do 1 (by rfl) (by rfl) (by rfl) (.inr (by first | kernel_rfl | decide)) (by rfl)
            · exact hasV_app (.tmp 41) (.tmp 62) 29 rfl _ _ _ _ rfl rfl (by rw [H1.out]; exact HAP.out) (H2.out 0).symm
            simp only [Act.put, List.setIfInBounds_toArray, List.set_cons_zero, List.set_cons_succ]
            apply G.mem_step (by rfl) (by rfl); (focus (intro j hj; go_simp; exact HasV.val rfl))
            simp only [Act.put, List.setIfInBounds_toArray, List.set_cons_zero, List.set_cons_succ]
            refine mem_end ?_
            rw [show ww [21, 22].length = w7 from H2.out 0]
            clear hp0 hp1 hp2 hpg HP H0 H1 H2 HAP HH
            go_wp2
            go_roundw
            case rel => exact ⟨k + 1, n + (1 + 1 + 1), A7, c7', by omega, by go_num, rfl, hn7, HN7⟩
            case measure => simp [intOf]; omega
          · obtain rfl : k = edges.length := by omega
            obtain ⟨x0, x1, x2, x3, x4, x5⟩ := read6 (chg_heap hN.out.2.1 HG5.out)
            have hlk := HEL.out edges.length (Nat.le_refl _)
            obtain ⟨A7, c7', w7, hap, hN7⟩ := New.app (P := Try.prog) (t := 29) (cB := 4) (B := some ⟨wr.heap.size, 0, none⟩) (x := [mn, sm, hi, lo]) (hN.out.chg ((Chg.refl _ _).alloc (.cells #[.int .u64 mn, .int .u64 sm, .int .u64 hi, .int .u64 lo] 24))) Try.underlying29 info24 hn.out.symm (ReadsI.of_block (t := 24) (fr := (0, 0)) (heap_alloc_at _ _)) (by simp; have := hn.out; omega) (by omega)
            simp only [List.length_cons, List.length_nil, Nat.zero_add] at hap hN7
            rw [← HTEN.out] at hN7
            have hn7 : n + (1 + 1 + 1 + 1) = T.length := by have := hn.out; have := HTL.out; omega
            obtain ⟨NT, hNT⟩ : ∃ NT, NT = n + (1 + 1 + 1 + 1) := ⟨_, rfl⟩
            rw [← hNT] at hap hN7 hn7
            have hNT2 : NT ≤ 2000 := by have := HTL.out; omega
            obtain ⟨_, _, he7, hr7⟩ := New.form hN7
            cases he7
            have HR7 := Lib.hid hr7
            have HN7 := Lib.hid hN7
            clear hN7 hlk hr7 hn7 hNT
            go_wp2_with (at_builtin; refine wpList_append_run rfl (.tmp 65) (.tmp 78) 29 rfl _ _ _ _ rfl rfl hap ?_)
            clear hap x0 x1 x2 x3 x4 x5
            have hTne : T ≠ [] := by rintro rfl; have := HTL.out; simp at this
            have h5f := HN5.out.2.2
            have h7f := HN7.out.2.2
            have hT0 : Two w w7 A5 n5 d5 (encL com) A7 T := by
              refine ⟨HN5.out.1.chg HN7.out.2.1 (fun _ _ => id), HL5.out, HR7.out, chg_trans (chg_trans HC5.out HN7.out.2.1) (Chg.refl _ _), fun k hk => ⟨Nat.le_trans (Nat.le_trans HC2.out.size HN3.out.2.1.size) (h5f k hk), fun x hx e => ?_⟩, fun hne x hx => ?_⟩
              · have h1 := HN5.out.1.lt hk
                obtain ⟨g9, o9, hg9, _⟩ := HR7.out.plain hTne
                rw [hx] at hg9
                cases hg9
                have h2 := h7f g9 (by rw [hx]; rfl)
                simp only at e
                omega
              · obtain ⟨g9, o9, hg9, hc9⟩ := HR7.out.plain hTne
                rw [hx] at hg9
                cases hg9
                exact World.block_lt_of_cell? w7 _ (hc9 0 (List.length_pos_iff.2 hTne))
            have HT0 := Lib.hid hT0
            have hcl : (encL com).length ≤ 81 := by have := encL_length com; omega
            have HNE := Lib.hid hTne
            clear hT0 h5f h7f hTne
            go_loopw [6, 82] (fun v i wr => ∃ (k n : Nat) (A : Option Addr) (c : Nat), k ≤ T.length ∧ i = .int .i64 k ∧ v = .slice A n c ∧ Hid (Two w wr A n c (encL com ++ encs (T.take k)) A7 T)) (fun _ i _ => T.length - (intOf i).toNat)
            case atStart => exact ⟨0, n5, A5, d5, by omega, rfl, rfl, Lib.hid (by simp only [List.take_zero, encs, List.append_nil]; exact HT0.out)⟩
            case round =>
              obtain ⟨k, n, A8, c8, hk, rfl, rfl, hN⟩ := hrel
              by_cases hk2 : k < T.length
              · obtain ⟨g1, o1, rfl, hx⟩ := hN.out.reads.plain HNE.out
                have hcell := hx k hk2
                have hu := HTU.out.getD k
                have hs := encs_take T k hk2
                have hlen := encs_take_length T k
                obtain ⟨M, hM⟩ : ∃ M, M = encL com ++ encs (T.take k) := ⟨_, rfl⟩
                have hs2 : M ++ enc (T.getD k 0) = encL com ++ encs (T.take (k + 1)) := by rw [hs, hM]; simp
                have hMl : M.length ≤ 81 + 9 * k := by rw [hM, List.length_append]; omega
                rw [← hM] at hN
                have hnM := hN.out.len
                obtain ⟨y, hy⟩ : ∃ y, y = T.getD k 0 := ⟨_, rfl⟩
                rw [← hy] at hcell hu hs2
                have ha : Calls Try.prog 23 #[.int .u64 y] wr (fun ee w6 => ∃ A6 n6 d6 A7' n7 d7 w7', ee = .returned (.slice A6 n6 d6) ∧ (Builtin.append_ #[22, 22] 22 #[.slice A8 n c8, .slice A6 n6 d6]).run Try.prog w6 = .ok (.slice A7' n7 d7) w7' ∧ Two w w7' A7' n7 d7 (encL com ++ encs (T.take (k + 1))) (some ⟨g1, o1, none⟩) T) := by
                  refine (number_any y wr hu).mono ?_
                  rintro e w6 ⟨v6, rfl, hN6⟩
                  obtain ⟨A6, n6, d6, rfl, hn6, hr6⟩ := New.form3 hN6
                  have hcn := csz_le y
                  rw [enc_length] at hn6
                  obtain ⟨A7', d7, n7, w7', h1, h2⟩ := Two.app (cC := d6) (N := n6) (hN.out.grow hN6.2.1) (by rw [enc_length]; exact hn6.symm) hr6 (by omega) HNE.out
                  rw [hs2] at h2
                  exact ⟨A6, n6, d6, A7', n7, d7, w7', rfl, h1, h2⟩
                clear hs hM hy hs2 hx hlen hnM hMl
                go_wp2_with (first | (go_at_call 23; refine ha.mono ?_; rintro e w6 ⟨A6, n6, d6, A7', n7, d7, w7', rfl, hrun, hN7⟩) | (at_builtin; refine wpList_append_run rfl _ _ 22 rfl _ _ _ _ rfl rfl hrun ?_))
                go_roundw
                case rel => exact ⟨k + 1, n7, A7', d7, by omega, by go_num, rfl, Lib.hid hN7⟩
                case measure => simp [intOf]; omega
              · obtain rfl : k = T.length := by omega
                rw [List.take_length] at hN
                have hfin := FIN.out wr _ (show NewB w wr (.slice A8 n c8) (encL com ++ encs T) from ⟨hN.out.own, hN.out.chg, fun k hk => (hN.out.far k hk).1⟩)
                have HFIN := Lib.hid hfin
                clear hfin hN
                go_wp2
                go_ret2
                exact HFIN.out
  · have hf' : formedS x = false := by simpa using hf
    unfold BoolPost at hfo
    rw [hf'] at hfo
    have fin : ∀ W, Chg (fun _ => False) w W → SEncPost x w (.returned (.tuple #[.slice none 0 0, .int .i64 1])) W := fun W hW => ⟨_, by rw [if_neg hf], by rw [if_neg hf]; exact (New.nil _ _ _).chg hW⟩
    obtain ⟨com, edges, mn, sm, hi, lo⟩ := x
    unfold sv at *
    simp only at *
    obtain ⟨w1, hw1⟩ : ∃ w1, w1 = w.alloc (.cells #[.slice A com.length c, .slice B edges.length d, .int .u64 mn, .int .u64 sm, .int .u64 hi, .int .u64 lo] 49) := ⟨_, rfl⟩
    have hC1 : Chg (fun _ => False) w w1 := by rw [hw1]; exact (Chg.refl _ _).alloc _
    have hg1 : w1.heap[w.heap.size]? = some (.cells #[.slice A com.length c, .slice B edges.length d, .int .u64 mn, .int .u64 sm, .int .u64 hi, .int .u64 lo] 49) := by rw [hw1]; exact heap_alloc_at _ _
    obtain ⟨g, hg⟩ : ∃ g, g = w.heap.size := ⟨_, rfl⟩
    rw [← hg] at hg1
    obtain ⟨c0, c1, c2, c3, c4, c5⟩ := read6 hg1
    have HFO := Lib.hid (hfo w1 (hA.chg hC1 (fun _ _ => id)) (hB.chg hC1 (fun _ _ => id)))
    have HW := Lib.hid hw1
    have HC1 := Lib.hid hC1
    have HGE := Lib.hid hg
    have FIN := Lib.hid fin
    clear hw1 hC1 hg1 hA hB hg fin hfo hf hf'
    go_enter Try.func30, Try.ntmps30
    go_upto_region 1 with (fail)
    rw [← HW.out, ← HGE.out]
    clear HW HGE
    go_wp2_with fail
    refine HFO.out.mono ?_
    rintro e2 w2 ⟨rfl, hC2⟩
    have HC2 := Lib.hid (chg_trans HC1.out hC2)
    clear hC2
    go_wp2
    go_ret2
    exact FIN.out _ HC2.out
end Go.Proofs.Ytcdbchdlenkdgaa
