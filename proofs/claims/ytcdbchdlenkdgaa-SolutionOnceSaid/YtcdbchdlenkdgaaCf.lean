/- Calls: the document's Encode. -/
import Derived.Test.YtcdbchdlenkdgaaCe
import Derived.Test.YtcdbchdlenkdgaaCr
import Derived.Test.YtcdbchdlenkdgaaTl
set_option linter.unusedVariables false
set_option linter.unusedSimpArgs false
namespace Go.Proofs.Ytcdbchdlenkdgaa
open Go.RowKit Go.Ps

theorem New.reads {e : TypeId} {q : IntKind} {w w1 : World} {A : Option Addr} {n c : Nat} {l : List Int} (h : New e q w w1 (.slice A n c) l) : ReadsI w1 q A l := by
  obtain ⟨_, _, he, hr⟩ := New.form h
  cases he
  exact hr
theorem New.app24 {w wr : World} {A B : Option Addr} {c cB L N : Nat} {m x : List Int} (h : New 24 .u64 w wr (.slice A L c) m) (hl : m.length = L) (hN : x.length = N) (hr : ReadsI wr .u64 B x) (hb : L + N ≤ 20000000000000) :
    ∃ A2 c2 n2 w2, (Builtin.append_ #[29, 29] 29 #[.slice A L c, .slice B N cB]).run Try.prog wr = .ok (.slice A2 n2 c2) w2 ∧ New 24 .u64 w w2 (.slice A2 n2 c2) (m ++ x) := by
  subst hN
  obtain ⟨A2, c2, w2, h1, h2⟩ := New.app (cB := cB) h Try.underlying29 info24 hl hr (by omega) (by omega)
  exact ⟨A2, c2, _, w2, h1, h2⟩
theorem new_lit24 (w : World) (l : List Int) (hl : l.length ≤ 1000000) : New 24 .u64 w (w.alloc (.cells (l.map (Value.int .u64)).toArray 24)) (.slice (some ⟨w.heap.size, 0, none⟩) l.length l.length) l :=
  ⟨own_of_block l l.length (heap_alloc_at _ _) rfl hl, (Chg.refl _ _).alloc _, fun k hk => by cases hk; exact Nat.le_refl _⟩
set_option maxRecDepth 20000 in
set_option maxHeartbeats 8000000 in
theorem rencode_any (x : C7) (A : Option Addr) (c : Nat) (B : Option Addr) (d : Nat) (w : World) (hx : x.ok) (hA : ReadsI w .u64 A x.list) (hB : ReadsI w .u8 B x.bytes) : Calls Try.prog 39 #[cv x A c B d] w (EncPost x w) := by
  have hfo := fun W => rformed_any x A c B d W
  by_cases hf : formedC x = true
  · have hft := of_decide_eq_true hf
    obtain ⟨f1, f2, f3, f4, f5, f6, f7⟩ := hft
    obtain ⟨kind, who, a, b, e, list, bytes⟩ := x
    obtain ⟨_, _, u3, u4, u5, hul, hub⟩ := hx
    simp only at f1 f2 f3 f4 f5 f6 f7 u3 u4 u5 hul hub hA hB
    have uk : U64' kind := ⟨by omega, by omega⟩
    have uw : U64' who := ⟨by omega, by omega⟩
    have fin : ∀ W v, NewB w W v (encC ⟨kind, who, a, b, e, list, bytes⟩) → EncPost ⟨kind, who, a, b, e, list, bytes⟩ w (.returned (.tuple #[v, .int .i64 0])) W := fun W v h => ⟨v, by rw [if_pos hf], by rw [if_pos hf]; exact h⟩
    have FIN := Lib.hid fin
    unfold BoolPost at hfo
    rw [hf] at hfo
    unfold cv at hfo ⊢
    simp only at hfo ⊢
    obtain ⟨m, hm⟩ : ∃ m, m = nums kind := ⟨_, rfl⟩
    have hm3 := nums_le kind
    have hn : ∀ W, Calls Try.prog 55 #[.int .i64 kind] W fun e w' => e = .returned (.int .i64 (nums kind)) ∧ w' = W := fun W => by
      have h := rnumbers_any kind W
      rwa [show numsR kind = nums kind by unfold numsR; rw [if_pos ⟨f1, f2⟩]] at h
    rw [← hm] at hm3 hn
    have HM := Lib.hid hm
    have HA := Lib.hid hA
    have HB := Lib.hid hB
    clear fin hf hm f5 hA hB
    go_enter Try.func39, Try.ntmps39
    go_wp2_with fail
    refine (hfo _).mono ?_
    rintro e1 w1 ⟨rfl, hC1⟩
    clear hfo
    have hb := chg_heap hC1 (heap_alloc_at w (.cells #[.int .i64 kind, .int .i64 who, .int .u64 a, .int .u64 b, .int .u64 e, .slice A list.length c, .slice B bytes.length d] 58))
    have hCw := chg_trans ((Chg.refl _ w).alloc _) hC1
    obtain ⟨g, hg⟩ : ∃ g, g = w.heap.size := ⟨_, rfl⟩
    rw [← hg] at hb ⊢
    have HC1 := Lib.hid hCw
    obtain ⟨q0, q1, q2, q3, q4, q5, q6⟩ := read7 hb
    have HB1 := Lib.hid hb
    have hN2 := new_lit24 w1 [kind, who] (by simp)
    have hb2 := heap_alloc_ne (o := .cells #[.int .u64 kind, .int .u64 who] 24) hb
    have hgl := heap_lt hb
    clear hb hC1 hCw hg
    go_wp2
    obtain ⟨w2, hw2⟩ : ∃ w2, w2 = w1.alloc (.cells #[.int .u64 kind, .int .u64 who] 24) := ⟨_, rfl⟩
    have hN2' : New 24 .u64 w1 w2 (.slice (some ⟨w1.heap.size, 0, none⟩) 2 2) [kind, who] := by rw [hw2]; exact hN2
    have hb2' : w2.heap[g]? = some (.cells #[.int .i64 kind, .int .i64 who, .int .u64 a, .int .u64 b, .int .u64 e, .slice A list.length c, .slice B bytes.length d] 58 (0, 0)) := by rw [hw2]; exact hb2
    rw [← hw2]
    obtain ⟨A2, hA2⟩ : ∃ A2, A2 = (some ⟨w1.heap.size, 0, none⟩ : Option Addr) := ⟨_, rfl⟩
    rw [← hA2] at hN2' ⊢
    clear hw2 hA2 hN2 hb2 hgl
    obtain ⟨c0, c1, c2, c3, c4, c5, c6⟩ := read7 hb2'
    have HB2 := Lib.hid hb2'
    -- behind the region
    have hsl := fun W => run_cutH (P := Try.prog) (kj := .i64) Try.underlying29 size24 (some ⟨w2.heap.size, 0, none⟩) 3 3 m (by omega) W
    have hrd : ReadsI ((w2.alloc (.cells #[.int .u64 a, .int .u64 b, .int .u64 e] 24)).drew) .u64 (cutA (some ⟨w2.heap.size, 0, none⟩) 0 3) ([a, b, e].take m) := by
      have h := cutA_sub (c := 3) (ReadsI.of_block (w := (w2.alloc (.cells #[.int .u64 a, .int .u64 b, .int .u64 e] 24)).drew) (g := w2.heap.size) (l := [a, b, e]) (t := 24) (fr := (0, 0)) (heap_alloc_at w2 _)) 0 m (by simp; omega) (by simp)
      rwa [List.drop_zero] at h
    have hN3 : New 24 .u64 w1 ((w2.alloc (.cells #[.int .u64 a, .int .u64 b, .int .u64 e] 24)).drew) (.slice A2 2 2) [kind, who] := New.chg hN2' ((Chg.refl _ _).alloc _).drew
    obtain ⟨R, hR⟩ : ∃ R, R = [a, b, e].take m := ⟨_, rfl⟩
    have hRl : R.length = m := by rw [hR, List.length_take]; simp; omega
    rw [← hR] at hrd
    obtain ⟨A4, d4, n4, w4, hap, hN4⟩ := New.app24 (cB := 3) hN3 rfl hRl hrd (by omega)
    have hll : ([kind, who] ++ R).length = m + 2 := by rw [List.length_append, hRl]; simp; omega
    have hlu : AllU ([kind, who] ++ R) := by
      intro n hn
      rw [hR] at hn
      rcases List.mem_append.1 hn with h | h
      · simp only [List.mem_cons, List.not_mem_nil, or_false] at h
        rcases h with rfl | rfl <;> assumption
      · have := List.mem_of_mem_take h
        simp only [List.mem_cons, List.not_mem_nil, or_false] at this
        rcases this with rfl | rfl | rfl <;> assumption
    have hn4 : n4 = m + 2 := by rw [(New.cap hN4).1, hll]
    subst hn4
    have hr4 := New.reads hN4
    have hx : encC ⟨kind, who, a, b, e, list, bytes⟩ = encs ([kind, who] ++ R) ++ encT ⟨kind, who, a, b, e, list, bytes⟩ := by
      rw [encs_append, hR, HM.out]
      simp [encC, encs]
    obtain ⟨L, hL⟩ : ∃ L, L = [kind, who] ++ R := ⟨_, rfl⟩
    have HBW := Lib.hid (chg_heap hN4.2.1 HB1.out)
    have HC4 := Lib.hid (chg_trans HC1.out hN4.2.1)
    have HK4 := Lib.hid hN4.2.1
    rw [← hL] at hll hlu hr4 hx
    have HX := Lib.hid hx
    have HR4 := Lib.hid hr4
    have HU := Lib.hid hlu
    have HLL := Lib.hid hll
    clear hx hr4 hlu hll hL hR hRl hN3 hrd hN2' u3 u4 u5
    go_region_held3 (fun W => W.cell? ⟨g, 0, none⟩ = some (.int .i64 kind) ∧ W.cell? ⟨g, 2, none⟩ = some (.int .u64 a) ∧ W.cell? ⟨g, 3, none⟩ = some (.int .u64 b) ∧ W.cell? ⟨g, 4, none⟩ = some (.int .u64 e)) (first | exact ⟨c0, c2, c3, c4⟩ | go_keep | (exact ⟨chg_cell hN4.2.1 q0 id, chg_cell hN4.2.1 q2 id, chg_cell hN4.2.1 q3 id, chg_cell hN4.2.1 q4 id⟩)) (first | (go_at_call 55; (with_reducible refine (hn _).mono ?_); rintro e5 w5 ⟨rfl, rfl⟩) | (refine step_append_run rfl _ _ 29 rfl _ _ _ _ rfl rfl hap ?_))
    all_goals
      clear hap hN4 hsl hn c0 c1 c2 c3 c4 c5 c6 q0 q1 q2 q3 q4 q5 q6
      go_wp2
      go_loopw [5, 32] (fun v i wr => ∃ (k n : Nat) (A : Option Addr) (c : Nat), k ≤ m + 2 ∧ i = .int .i64 k ∧ v = .slice A n c ∧ NewB w4 wr (.slice A n c) (encs (L.take k))) (fun _ i _ => m + 2 - (intOf i).toNat)
      case atStart => exact ⟨0, 0, none, 0, by omega, rfl, rfl, by simp only [List.take_zero, encs]; exact New.nil _ _ _⟩
      case round =>
        obtain ⟨k, n, A5, c5, hk, rfl, rfl, hN⟩ := hrel
        have hml := (New.cap hN).1
        by_cases hk2 : k < m + 2
        · have hll := HLL.out
          obtain ⟨g1, o1, rfl, hx⟩ := HR4.out.plain (by rintro rfl; simp at hll)
          have hcell := chg_cell hN.2.1 (hx k (by omega)) id
          have hu := HU.out.getD k
          have hs := encs_take L k (by omega)
          have hlen := encs_take_length L k
          obtain ⟨M, hM⟩ : ∃ M, M = encs (L.take k) := ⟨_, rfl⟩
          rw [← hM] at hs hN hml hlen
          obtain ⟨y, hy⟩ : ∃ y, y = L.getD k 0 := ⟨_, rfl⟩
          rw [← hy] at hcell hu hs
          have ha : Calls Try.prog 23 #[.int .u64 y] wr (fun ee w6 => ∃ A6 n6 d6 A7 n7 d7 w7, ee = .returned (.slice A6 n6 d6) ∧ (Builtin.append_ #[22, 22] 22 #[.slice A5 n c5, .slice A6 n6 d6]).run Try.prog w6 = .ok (.slice A7 n7 d7) w7 ∧ NewB w4 w7 (.slice A7 n7 d7) (M ++ enc y)) := by
            refine (number_any y wr hu).mono ?_
            rintro e w6 ⟨v6, rfl, hN6⟩
            obtain ⟨A6, n6, d6, rfl, hn6, hr6⟩ := New.form3 hN6
            have hcn := csz_le y
            rw [enc_length] at hn6
            obtain ⟨A7, d7, n7, w7, h1, h2⟩ := NewB.app (cB := d6) (N := n6) (New.chg hN hN6.2.1) hml.symm (by rw [enc_length]; exact hn6.symm) hr6 (by omega)
            exact ⟨A6, n6, d6, A7, n7, d7, w7, rfl, h1, h2⟩
          rw [← hs] at ha
          have HS := Lib.hid hs
          clear hs hM hy hN hx hlen hml hll
          go_wp2_with (first | (go_at_call 23; refine ha.mono ?_; rintro e w6 ⟨A6, n6, d6, A7, n7, d7, w7, rfl, hrun, hN7⟩) | (at_builtin; refine wpList_append_run rfl _ _ 22 rfl _ _ _ _ rfl rfl hrun ?_))
          go_roundw
          case rel => exact ⟨k + 1, n7, A7, d7, by omega, by go_num, rfl, hN7⟩
          case measure => simp [intOf]; omega
        · have hkm : k = m + 2 := by omega
          subst hkm
          rw [List.take_of_length_le (by rw [HLL.out]; omega)] at hN hml
          have hlen := encs_length L
          rw [HLL.out] at hlen
          obtain ⟨c0, c1, c2, c3, c4, c5', c6⟩ := read7 (chg_heap hN.2.1 HBW.out)
          have HN := Lib.hid hN
          have HML := Lib.hid hml
          have hnb : n ≤ 45 := by omega
          clear hN hml hlen
          by_cases k6 : kind = 6
          · subst k6
            have hT : encT ⟨6, who, a, b, e, list, bytes⟩ = encL list := rfl
            simp only [if_pos] at f6
            have hl7 := encL_length list
            have ha : Calls Try.prog 26 #[.slice A list.length c] wr (fun ee w6 => ∃ A6 n6 d6 A7 n7 d7 w7, ee = .returned (.slice A6 n6 d6) ∧ (Builtin.append_ #[22, 22] 22 #[.slice A5 n c5, .slice A6 n6 d6]).run Try.prog w6 = .ok (.slice A7 n7 d7) w7 ∧ EncPost ⟨6, who, a, b, e, list, bytes⟩ w (.returned (.tuple #[.slice A7 n7 d7, .int .i64 0])) w7 ∧ Chg (fun _ => False) w4 w7) := by
              refine (rlist_any wr A c list (HA.out.chg (chg_trans HC4.out HN.out.2.1) (fun _ _ => id)) hul (by omega)).mono ?_
              rintro e w6 ⟨v6, rfl, hN6⟩
              obtain ⟨A6, n6, d6, rfl, hn6, hr6⟩ := New.form3 hN6
              obtain ⟨A7, d7, n7, w7, h1, h2⟩ := NewB.app (cB := d6) (N := n6) (New.chg HN.out hN6.2.1) HML.out.symm hn6.symm hr6 (by omega)
              exact ⟨A6, n6, d6, A7, n7, d7, w7, rfl, h1, FIN.out _ _ (by rw [HX.out, hT]; exact NewB.after HC4.out h2), h2.2.1⟩
            have HAA := Lib.hid ha
            clear hT f6 f7 hl7 ha
            go_wp2_with fail
            refine HAA.out.mono ?_
            rintro e6 w6 ⟨A6, n6, d6, A7, n7, d7, w7, rfl, hrun, hfin, hC7⟩
            have HF := Lib.hid hfin
            obtain ⟨c0, c1, c2, c3, c4, c5', c6⟩ := read7 (chg_heap hC7 HBW.out)
            clear hfin hC7
            go_wp2_with (at_builtin; refine wpList_append_run rfl _ _ 22 rfl _ _ _ _ rfl rfl hrun ?_)
            go_ret2
            exact HF.out
          · by_cases k10 : kind = 10
            · subst k10
              have hT : encT ⟨10, who, a, b, e, list, bytes⟩ = enc bytes.length ++ bytes := rfl
              simp only [if_pos] at f7
              have ha : Calls Try.prog 23 #[.int .u64 bytes.length] wr (fun ee w6 => ∃ A6 n6 d6 A7 n7 d7 w7, ee = .returned (.slice A6 n6 d6) ∧ (Builtin.append_ #[22, 22] 22 #[.slice A5 n c5, .slice A6 n6 d6]).run Try.prog w6 = .ok (.slice A7 n7 d7) w7 ∧ NewB w4 w7 (.slice A7 n7 d7) (encs L ++ enc bytes.length)) := by
                refine (number_any bytes.length wr (len_u64 (by omega))).mono ?_
                rintro e w6 ⟨v6, rfl, hN6⟩
                obtain ⟨A6, n6, d6, rfl, hn6, hr6⟩ := New.form3 hN6
                have hcn := csz_le bytes.length
                rw [enc_length] at hn6
                obtain ⟨A7, d7, n7, w7, h1, h2⟩ := NewB.app (cB := d6) (N := n6) (New.chg HN.out hN6.2.1) HML.out.symm (by rw [enc_length]; exact hn6.symm) hr6 (by omega)
                exact ⟨A6, n6, d6, A7, n7, d7, w7, rfl, h1, h2⟩
              have HAA := Lib.hid ha
              clear f6 ha
              go_wp2_with fail
              refine HAA.out.mono ?_
              rintro e6 w6 ⟨A6, n6, d6, A7, n7, d7, w7, rfl, hrun, hN7⟩
              obtain ⟨c0, c1, c2, c3, c4, c5', c6⟩ := read7 (chg_heap hN7.2.1 HBW.out)
              have hn7 := (New.cap hN7).1
              have hcn := csz_le bytes.length
              have hel := encs_length L
              rw [HLL.out] at hel
              rw [List.length_append, enc_length] at hn7
              obtain ⟨A8, d8, n8, w8, hrun8, hN8⟩ := NewB.app (cB := d) (N := bytes.length) hN7 (by rw [List.length_append, enc_length]; exact hn7.symm) rfl (HB.out.chg (chg_trans HC4.out hN7.2.1) (fun _ _ => id)) (by omega)
              have HF := Lib.hid (FIN.out _ _ (show NewB w w8 (.slice A8 n8 d8) (encC ⟨10, who, a, b, e, list, bytes⟩) by rw [HX.out, hT, ← List.append_assoc]; exact NewB.after HC4.out hN8))
              clear hT hN7 hN8 hn7 hcn hel
              go_wp2_with (first | (at_builtin; refine wpList_append_run rfl (.tmp 54) (.tmp 59) 22 rfl _ _ _ _ rfl rfl hrun ?_) | (at_builtin; refine wpList_append_run rfl (.tmp 61) (.tmp 63) 22 rfl _ _ _ _ rfl rfl hrun8 ?_))
              go_ret2
              exact HF.out
            · have b6 := beq_eq_false_iff_ne.2 k6
              have b10 := beq_eq_false_iff_ne.2 k10
              have hT : encT ⟨kind, who, a, b, e, list, bytes⟩ = [] := by unfold encT; rw [if_neg k6, if_neg k10]
              have hfin := FIN.out _ _ (show NewB w wr (.slice A5 n c5) (encC ⟨kind, who, a, b, e, list, bytes⟩) by rw [HX.out, hT, List.append_nil]; exact NewB.after HC4.out HN.out)
              have HF := Lib.hid hfin
              clear hT hfin k6 k10
              go_wp2
              go_ret2
              exact HF.out
  · have hff : formedC x = false := by simpa using hf
    have fin : ∀ W, Chg (fun _ => False) w W → EncPost x w (.returned (.tuple #[.slice none 0 0, .int .i64 1])) W := fun W h => ⟨_, by rw [if_neg hf], by rw [if_neg hf]; exact (New.nil _ _ _).chg h⟩
    have FIN := Lib.hid fin
    unfold BoolPost at hfo
    rw [hff] at hfo
    unfold cv at hfo ⊢
    clear fin hff hf hx hA hB
    go_enter Try.func39, Try.ntmps39
    go_wp2_with fail
    refine (hfo _).mono ?_
    rintro e1 w1 ⟨rfl, hC1⟩
    have HC := Lib.hid (chg_trans ((Chg.refl _ w).alloc _) hC1)
    clear hfo hC1
    go_wp2
    go_ret2
    exact FIN.out _ HC.out
end Go.Proofs.Ytcdbchdlenkdgaa
