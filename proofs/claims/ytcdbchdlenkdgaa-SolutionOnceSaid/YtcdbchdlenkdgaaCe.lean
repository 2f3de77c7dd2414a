/- Calls: Encode. -/
import Derived.Test.YtcdbchdlenkdgaaCa
import Derived.Test.YtcdbchdlenkdgaaLi
set_option linter.unusedVariables false
set_option linter.unusedSimpArgs false
namespace Go.Proofs.Ytcdbchdlenkdgaa
open Go.RowKit Go.Ps

def EncPost (x : C7) (w : World) (e : Ending) (w' : World) : Prop := ∃ v, e = .returned (.tuple #[v, .int .i64 (if formedC x = true then 0 else 1)]) ∧ NewB w w' v (if formedC x = true then encC x else [])
theorem read7 {w : World} {g : Nat} {c0 c1 c2 c3 c4 c5 c6 : Value} {t : TypeId} (h : w.heap[g]? = some (.cells #[c0, c1, c2, c3, c4, c5, c6] t (0, 0))) :
    w.cell? ⟨g, 0, none⟩ = some c0 ∧ w.cell? ⟨g, 1, none⟩ = some c1 ∧ w.cell? ⟨g, 2, none⟩ = some c2 ∧ w.cell? ⟨g, 3, none⟩ = some c3 ∧ w.cell? ⟨g, 4, none⟩ = some c4 ∧ w.cell? ⟨g, 5, none⟩ = some c5 ∧ w.cell? ⟨g, 6, none⟩ = some c6 :=
  ⟨cell_of h 0 rfl, cell_of h 1 rfl, cell_of h 2 rfl, cell_of h 3 rfl, cell_of h 4 rfl, cell_of h 5 rfl, cell_of h 6 rfl⟩
theorem chg_heap {w w' : World} (h : Chg (fun _ => False) w w') {b : Nat} {o : Obj} (hb : w.heap[b]? = some o) : w'.heap[b]? = some o := (h.block b (heap_lt hb) id).trans hb
set_option maxRecDepth 20000 in
set_option maxHeartbeats 4000000 in
theorem encode_any (x : C7) (A : Option Addr) (c : Nat) (B : Option Addr) (d : Nat) (w : World) (hx : x.ok) (hA : ReadsI w .u64 A x.list) (hB : ReadsI w .u8 B x.bytes) : Calls Try.prog 37 #[cv x A c B d] w (EncPost x w) := by
  have hfo := fun W => formed_any x A c B d W
  by_cases hf : formedC x = true
  · have hft := of_decide_eq_true hf
    obtain ⟨f1, f2, f3, f4, f5, f6, f7⟩ := hft
    obtain ⟨kind, who, a, b, e, list, bytes⟩ := x
    obtain ⟨_, _, u3, u4, u5, hul, hub⟩ := hx
    simp only at f1 f2 f3 f4 f5 f6 f7 u3 u4 u5 hul hub hA hB
    have uk : U64' kind := ⟨by omega, by omega⟩
    have uw : U64' who := ⟨by omega, by omega⟩
    have fin : ∀ W v, NewB w W v (encC ⟨kind, who, a, b, e, list, bytes⟩) → EncPost ⟨kind, who, a, b, e, list, bytes⟩ w (.returned (.tuple #[v, .int .i64 0])) W := fun W v h => ⟨v, by rw [if_pos hf], by rw [if_pos hf]; exact h⟩
    have FIN := Lib.hid fin
    unfold BoolPost at hfo
    rw [hf] at hfo
    unfold cv at hfo ⊢
    simp only at hfo ⊢
    obtain ⟨m, hm⟩ : ∃ m, m = nums kind := ⟨_, rfl⟩
    have hm3 := nums_le kind
    have hn := fun W => numbers_any kind W
    rw [← hm] at hm3 hn
    have HM := Lib.hid hm
    have HA := Lib.hid hA
    have HB := Lib.hid hB
    clear fin hf hm f5 hA hB
    go_enter Try.func37, Try.ntmps37
    go_wp2_with fail
    refine (hfo _).mono ?_
    rintro e1 w1 ⟨rfl, hC1⟩
    clear hfo
    have hb := chg_heap hC1 (heap_alloc_at w (.cells #[.int .i64 kind, .int .i64 who, .int .u64 a, .int .u64 b, .int .u64 e, .slice A list.length c, .slice B bytes.length d] 60))
    have hCw := chg_trans ((Chg.refl _ w).alloc _) hC1
    obtain ⟨g, hg⟩ : ∃ g, g = w.heap.size := ⟨_, rfl⟩
    rw [← hg] at hb ⊢
    have HC1 := Lib.hid hCw
    have HB1 := Lib.hid hb
    obtain ⟨c0, c1, c2, c3, c4, c5, c6⟩ := read7 hb
    clear hb hC1 hCw hg
    go_wp2_with fail
    refine (append_any w1 none 0 [] kind (fun h => absurd rfl h) (by simp) uk).mono ?_
    rintro e2 w2 ⟨v2, rfl, hN2⟩
    rw [List.nil_append] at hN2
    obtain ⟨A2, n2, d2, rfl, hn2, hr2⟩ := New.form3 hN2
    have hb := chg_heap hN2.2.1 HB1.out
    obtain ⟨c0, c1, c2, c3, c4, c5, c6⟩ := read7 hb
    have HB2 := Lib.hid hb
    have HN2 := Lib.hid hN2
    clear hb hN2
    have h22 := append_any w2 A2 d2 (enc kind) who hr2 (by rw [enc_length]; have := csz_le kind; omega) uw
    rw [← hn2] at h22
    have H2 := Lib.hid hn2
    clear hn2 hr2
    go_wp2_with fail
    refine h22.mono ?_
    rintro e3 w3 ⟨v3, rfl, hN3⟩
    obtain ⟨A3, n3, d3, rfl, hn3, hr3⟩ := New.form3 hN3
    have hb := chg_heap hN3.2.1 HB2.out
    have hN3' := hN3.after HN2.out.2.1
    have HN3 := Lib.hid hN3'
    have H3 := Lib.hid hn3
    clear h22 hN3 hN3' hn3 hr3
    obtain ⟨c0, c1, c2, c3, c4, c5, c6⟩ := read7 hb
    have hb2 := heap_alloc_ne (o := .cells #[.int .u64 a, .int .u64 b, .int .u64 e] 24) hb
    obtain ⟨d0, d1, d2', d3', d4, d5, d6⟩ := read7 hb2
    have hsl := fun W => run_cutH (P := Try.prog) (kj := .i64) Try.underlying29 size24 (some ⟨w3.heap.size, 0, none⟩) 3 3 m (by omega) W
    have HB3 := Lib.hid hb2
    clear hb hb2
    go_wp2_with fail
    refine wp_region_two 6 ((w3.alloc (.cells #[.int .u64 a, .int .u64 b, .int .u64 e] 24)).drew) (by kernel_rfl) (by kernel_rfl) (by kernel_rfl) ?_
    iterate 6 (apply two_step (by rfl) (by rfl); (focus (intro W hW; rcases hW with rfl | rfl; (go_simp; exact HasV.val rfl); (go_simp; exact HasV.val rfl))); simp only [Act.put, List.setIfInBounds_toArray, List.set_cons_zero, List.set_cons_succ])
    apply two_do (by rfl) (by rfl)
    · go_simp
      exact HasV.val rfl
    simp only [Act.put, List.setIfInBounds_toArray, List.set_cons_zero, List.set_cons_succ]
    iterate 2 (apply two_step (by rfl) (by rfl); (focus (intro W hW; rcases hW with rfl | rfl; (go_simp; exact HasV.val rfl); (go_simp; exact HasV.val rfl))); simp only [Act.put, List.setIfInBounds_toArray, List.set_cons_zero, List.set_cons_succ])
    apply two_step (by rfl) (by rfl)
    · intro W hW
      go_simp
      exact HasV.call (hn W) fun _ h => h
    simp only [Act.put, List.setIfInBounds_toArray, List.set_cons_zero, List.set_cons_succ]
    iterate 3 (apply two_step (by rfl) (by rfl); (focus (intro W hW; go_simp; exact HasV.val rfl)); simp only [Act.put, List.setIfInBounds_toArray, List.set_cons_zero, List.set_cons_succ])
    refine two_nil ?_
    go_wp2
    obtain ⟨w4, hw4⟩ : ∃ w4, w4 = (w3.alloc (.cells #[.int .u64 a, .int .u64 b, .int .u64 e] 24)).drew := ⟨_, rfl⟩
    have hrd : ReadsI w4 .u64 (cutA (some ⟨w3.heap.size, 0, none⟩) 0 3) ([a, b, e].take m) := by
      have h := cutA_sub (c := 3) (ReadsI.of_block (w := w4) (g := w3.heap.size) (l := [a, b, e]) (t := 24) (fr := (0, 0)) (by rw [hw4]; exact heap_alloc_at w3 _)) 0 m (by simp; omega) (by simp)
      rwa [List.drop_zero] at h
    have hC34 : Chg (fun _ => False) w3 w4 := by rw [hw4]; exact ((Chg.refl _ _).alloc _).drew
    have hb4 : w4.heap[g]? = some (.cells #[.int .i64 kind, .int .i64 who, .int .u64 a, .int .u64 b, .int .u64 e, .slice A list.length c, .slice B bytes.length d] 60 (0, 0)) := by rw [hw4]; exact HB3.out
    have hN4 : NewB w w4 (.slice A3 n3 d3) (enc kind ++ enc who) := NewB.after HC1.out (New.chg HN3.out hC34)
    rw [← hw4]
    obtain ⟨R, hR⟩ : ∃ R, R = [a, b, e].take m := ⟨_, rfl⟩
    obtain ⟨A4, hA4⟩ : ∃ R, R = cutA (some ⟨w3.heap.size, 0, none⟩) 0 3 := ⟨_, rfl⟩
    have hRl : R.length = m := by rw [hR, List.length_take]; simp; omega
    have hRu : AllU R := by
      intro n hn
      rw [hR] at hn
      have := List.mem_of_mem_take hn
      simp only [List.mem_cons, List.not_mem_nil, or_false] at this
      rcases this with rfl | rfl | rfl <;> assumption
    rw [← hR, ← hA4] at hrd
    rw [← hA4]
    have HR := Lib.hid hR
    have HRD := Lib.hid hrd
    have HB4 := Lib.hid hb4
    have HRU := Lib.hid hRu
    have HC4 := Lib.hid hN4.2.1
    clear d0 d1 d2' d3' d4 d5 d6 c0 c1 c2 c3 c4 c5 c6 hw4 hR hA4 hrd hC34 hb4 hRu HB3 hsl hn u3 u4 u5
    go_loopw [4, 31] (fun v i wr => ∃ (k n : Nat) (A : Option Addr) (c : Nat), k ≤ m ∧ i = .int .i64 k ∧ v = .slice A n c ∧ NewB w wr (.slice A n c) (enc kind ++ enc who ++ encs (R.take k)) ∧ Chg (fun _ => False) w4 wr) (fun _ i _ => m - (intOf i).toNat)
    case atStart => exact ⟨0, n3, A3, d3, by omega, rfl, rfl, by simp only [List.take_zero, encs, List.append_nil]; exact hN4, Chg.refl _ _⟩
    case round =>
      obtain ⟨k, n, A5, c5, hk, rfl, rfl, hN, hC⟩ := hrel
      obtain ⟨_, _, he, hr5⟩ := New.form hN
      cases he
      by_cases hk2 : k < m
      · obtain ⟨g1, o1, rfl, hx⟩ := HRD.out.plain (by rintro rfl; simp at hRl; omega)
        have hcell := chg_cell hC (hx k (by omega)) id
        have hu := HRU.out.getD k
        have hs := encs_take R k (by omega)
        have hlen := encs_take_length R k
        obtain ⟨M, hM⟩ : ∃ M, M = enc kind ++ enc who ++ encs (R.take k) := ⟨_, rfl⟩
        have hs2 : M ++ enc (R.getD k 0) = enc kind ++ enc who ++ encs (R.take (k + 1)) := by rw [hs, hM]; simp
        have hMl : M.length ≤ 18 + 9 * k := by
          have h1 := csz_le kind
          have h2 := csz_le who
          rw [hM, List.length_append, List.length_append, enc_length, enc_length]
          omega
        rw [← hM] at hN hr5 ⊢
        obtain ⟨y, hy⟩ : ∃ y, y = R.getD k 0 := ⟨_, rfl⟩
        rw [← hy] at hcell hu hs2
        have ha := append_any wr A5 c5 M y hr5 (by omega) hu
        have HS := Lib.hid hs2
        have HN := Lib.hid hN
        have HC := Lib.hid hC
        clear hs hM hy hs2 hr5 hN hx hlen hC
        go_wp2_with fail
        refine ha.mono ?_
        rintro e6 w6 ⟨v6, rfl, hN6⟩
        obtain ⟨A6, n6, d6, rfl, hn6, _⟩ := New.form3 hN6
        clear hn6
        have hf := hN6.after HN.out.2.1
        rw [HS.out] at hf
        have hC6 := chg_trans HC.out hN6.2.1
        go_wp2
        go_roundw
        case rel => exact ⟨k + 1, n6, A6, d6, by omega, by go_num, rfl, hf, hC6⟩
        case measure => simp [intOf]; omega
      · have hkm : k = m := by omega
        subst hkm
        rw [List.take_of_length_le (by omega)] at hN hr5 ⊢
        obtain ⟨M, hM⟩ : ∃ M, M = enc kind ++ enc who ++ encs R := ⟨_, rfl⟩
        have hMl : M.length ≤ 18 + 9 * 3 := by
          have h1 := csz_le kind
          have h2 := csz_le who
          have h3 := encs_length R
          rw [hM, List.length_append, List.length_append, enc_length, enc_length]
          omega
        have hx : encC ⟨kind, who, a, b, e, list, bytes⟩ = M ++ encT ⟨kind, who, a, b, e, list, bytes⟩ := by
          rw [hM, HR.out, HM.out]
          rfl
        rw [← hM] at hN hr5 ⊢
        obtain ⟨c0, c1, c2, c3, c4, c5', c6⟩ := read7 (chg_heap hC HB4.out)
        have HX := Lib.hid hx
        have HN := Lib.hid hN
        have HC := Lib.hid hC
        clear hM hx hN hC
        by_cases k6 : kind = 6
        · subst k6
          have hT : encT ⟨6, who, a, b, e, list, bytes⟩ = encL list := rfl
          simp only [if_pos] at f6
          have hCA := chg_trans HC4.out HC.out
          have h25 := list_any wr A5 A c5 c M list hr5 (HA.out.chg hCA (fun _ _ => id)) hul (by omega)
          have fin2 : ∀ W v, NewB wr W v (M ++ encL list) → EncPost ⟨6, who, a, b, e, list, bytes⟩ w (.returned (.tuple #[v, .int .i64 0])) W := fun W v h => FIN.out _ _ (by rw [HX.out, hT]; exact NewB.after HN.out.2.1 h)
          have F2 := Lib.hid fin2
          clear hT fin2 hCA hr5 f6 f7
          go_wp2_with fail
          refine h25.mono ?_
          rintro e7 w7 ⟨v7, rfl, hN7⟩
          have H7 := Lib.hid hN7
          clear hN7
          go_wp2
          go_ret2
          exact F2.out _ _ H7.out
        · by_cases k10 : kind = 10
          · subst k10
            have hT : encT ⟨10, who, a, b, e, list, bytes⟩ = enc bytes.length ++ bytes := rfl
            simp only [if_pos] at f7
            have hCA := chg_trans HC4.out HC.out
            have hdr : Chg (fun _ => False) wr wr.drew := (Chg.refl _ _).drew
            have h22 := append_any wr.drew A5 c5 M bytes.length (hr5.chg hdr (fun _ _ => id)) (by omega) (len_u64 (by omega))
            have fin2 : ∀ W v, NewB wr.drew W v (M ++ enc bytes.length ++ bytes) → EncPost ⟨10, who, a, b, e, list, bytes⟩ w (.returned (.tuple #[v, .int .i64 0])) W := fun W v h => FIN.out _ _ (by rw [HX.out, hT, ← List.append_assoc]; exact NewB.after (chg_trans HN.out.2.1 hdr) h)
            have F2 := Lib.hid fin2
            have hap : ∀ W (A7 : Option Addr) (n7 d7 : Nat), NewB wr.drew W (.slice A7 n7 d7) (M ++ enc bytes.length) → ∃ A8 d8 n8 W8, (Builtin.append_ #[22, 22] 22 #[.slice A7 n7 d7, .slice B bytes.length d]).run Try.prog W = .ok (.slice A8 n8 d8) W8 ∧ NewB wr.drew W8 (.slice A8 n8 d8) (M ++ enc bytes.length ++ bytes) := fun W A7 n7 d7 h => by
              have hc := (New.cap h).1
              have h1 := csz_le bytes.length
              exact NewB.app (cB := d) h hc.symm rfl (HB.out.chg (chg_trans hCA (chg_trans hdr h.2.1)) (fun _ _ => id)) (by rw [hc, List.length_append, enc_length]; omega)
            have HAP := Lib.hid hap
            have hchg : ∀ W, Chg (fun _ => False) wr.drew W → W.cell? ⟨g, 6, none⟩ = some (.slice B bytes.length d) := fun W h => chg_cell h c6 id
            have HCH := Lib.hid hchg
            have hwrap : IntKind.u64.wrap (bytes.length : Int) = bytes.length := u64_wrap_id _ (by omega) (by omega)
            clear hT fin2 hCA hr5 f6 hap hchg
            go_wp2_with fail
            go_region_held3 (fun W => W.cell? ⟨g, 6, none⟩ = some (.slice B bytes.length d)) (first | (exact HCH.out _ hN7.2.1) | (exact HCH.out _ hN8.2.1) | (exact c6) | go_keep) (first | (go_at_call 22; (with_reducible refine h22.mono ?_); rintro e7 w7 ⟨v7, rfl, hN7⟩; obtain ⟨A7, n7, d7, rfl, hn7, _⟩ := New.form3 hN7; clear hn7; obtain ⟨A8, d8, n8, w8, hrun, hN8⟩ := HAP.out _ A7 n7 d7 hN7) | (refine step_append_run rfl _ _ 22 rfl _ _ _ _ rfl rfl hrun ?_))
            have H8 := Lib.hid hN8
            clear hN8 hN7 hrun hwrap h22
            go_wp2
            go_ret2
            exact F2.out _ _ H8.out
          · have b6 := beq_eq_false_iff_ne.2 k6
            have b10 := beq_eq_false_iff_ne.2 k10
            have hT : encT ⟨kind, who, a, b, e, list, bytes⟩ = [] := by unfold encT; rw [if_neg k6, if_neg k10]
            have hfin := FIN.out _ _ (show NewB w wr (.slice A5 M.length c5) (encC ⟨kind, who, a, b, e, list, bytes⟩) by rw [HX.out, hT, List.append_nil]; exact HN.out)
            have HF := Lib.hid hfin
            clear hT hfin k6 k10
            go_wp2
            go_ret2
            exact HF.out
  · have hff : formedC x = false := by simpa using hf
    have fin : ∀ W, Chg (fun _ => False) w W → EncPost x w (.returned (.tuple #[.slice none 0 0, .int .i64 1])) W := fun W h => ⟨_, by rw [if_neg hf], by rw [if_neg hf]; exact (New.nil _ _ _).chg h⟩
    have FIN := Lib.hid fin
    unfold BoolPost at hfo
    rw [hff] at hfo
    unfold cv at hfo ⊢
    clear fin hff hf hx hA hB
    go_enter Try.func37, Try.ntmps37
    go_wp2_with fail
    refine (hfo _).mono ?_
    rintro e1 w1 ⟨rfl, hC1⟩
    have HC := Lib.hid (chg_trans ((Chg.refl _ w).alloc _) hC1)
    clear hfo hC1
    go_wp2
    go_ret2
    exact FIN.out _ HC.out
end Go.Proofs.Ytcdbchdlenkdgaa
