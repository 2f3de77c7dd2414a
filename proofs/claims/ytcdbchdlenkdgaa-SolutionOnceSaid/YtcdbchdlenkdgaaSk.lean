/- Solutions: awake, and the law SolutionDecodes. -/
import Derived.Test.YtcdbchdlenkdgaaSj
import Derived.Test.YtcdbchdlenkdgaaCo
set_option linter.unusedVariables false
set_option linter.unusedSimpArgs false
namespace Go.Proofs.Ytcdbchdlenkdgaa
open Go.RowKit Go.Ps

theorem sol0_ok : sol0.ok := ⟨by simp [sol0], by simp [sol0], ⟨by decide, by decide⟩, ⟨by decide, by decide⟩, ⟨by decide, by decide⟩, ⟨by decide, by decide⟩⟩
theorem sol0_formed : formedS sol0 = true := by decide
theorem sol0_enc : encS sol0 = [0, 0, 0, 0, 0, 0] := by decide
set_option maxHeartbeats 1000000 in
theorem awake15_any (w : World) : Calls Try.prog 27 #[] w (AwPost w) := by
  have h := sencode_any sol0 none 0 none 0 w sol0_ok (fun h => absurd rfl h) (fun h => absurd rfl h)
  obtain ⟨S, hS⟩ : ∃ S, S = strOf [0, 0, 0, 0, 0, 0] := ⟨_, rfl⟩
  have hl : S.toList = [0, 0, 0, 0, 0, 0] := by rw [hS, strOf_toList]; rfl
  have HS := Lib.hid hS
  unfold SEncPost at h
  rw [sol0_formed, if_pos rfl, if_pos rfl, sol0_enc] at h
  unfold sv sol0 at h
  simp only [List.length_nil] at h
  clear hS
  go_enter Try.func27, Try.ntmps27
  go_wp2_with fail
  refine h.mono ?_
  rintro e1 w1 ⟨v, rfl, hN⟩
  obtain ⟨A2, n2, d2, rfl, hn2, hr2⟩ := New.form3 hN
  have hs2 : (convert 22 9 (.slice A2 n2 d2)).run Try.prog w1 = .ok (.string S) w1 := by
    rw [HS.out]
    exact str_at hr2 hn2 (Chg.refl _ _)
  have HC := Lib.hid hN.2.1
  clear hN h hn2 hr2
  simp only []
  go_wp2
  go_ret
  exact ⟨by simp, HC.out⟩
theorem sdecode_of (w : World) (A : Option Addr) (c : Nat) (l : List Int) (hr : ReadsI w .u8 A l) (hb : Bytes l) (hl : l.length ≤ 20000000000) (hcap : l.length ≤ c) : Calls Try.prog 33 #[.slice A l.length c] w (SDecPost (decS l) w) :=
  sdecode_any w A c l hr hb hl hcap (fun hne a ha => by
    obtain ⟨a', ha', hx⟩ := hr hne
    rw [ha'] at ha
    cases ha
    have h0 := World.block_lt_of_cell? w _ (hx 0 (List.length_pos_iff.2 hne))
    rwa [block_add] at h0)
theorem decS_small {l : List Int} (hb : Bytes l) : (decS l).1.com.length ≤ 8 ∧ (decS l).1.edges.length ≤ 256 := by
  rcases decS_err l with h | h
  · obtain ⟨x, hx⟩ : ∃ x, x = (decS l).1 := ⟨_, rfl⟩
    have hd : decS l = (x, 0) := by rw [hx]; exact Prod.ext rfl h
    obtain ⟨_, hf, _⟩ := (decS_iff hb x).1 hd
    obtain ⟨h1, h2, _⟩ := (formedS_iff x).1 hf
    rw [← hx]
    exact ⟨h1, h2⟩
  · rw [h]; exact ⟨Nat.zero_le _, Nat.zero_le _⟩
set_option maxRecDepth 100000 in
theorem sdecode_long (w : World) (A : Option Addr) (c : Nat) (l : List Int) (hl : l.length ≤ 140737488351232) (hlong : 20000 < l.length) : Calls Try.prog 33 #[.slice A l.length c] w (SDecPost (decS l) w) := by
  have hd : decS l = (sol0, 4) := by unfold decS; rw [if_pos hlong]
  rw [hd]
  have fin : ∀ W, Chg (fun _ => False) w W → SDecPost (sol0, 4) w (.returned (.tuple #[sv sol0 none 0 none 0, .int .i64 4])) W := fun W hW => ⟨none, 0, none, 0, rfl, fun h => absurd rfl h, fun h => absurd rfl h, Nat.le_refl _, Nat.le_refl _, hW⟩
  have FIN := Lib.hid fin
  clear hd fin
  go_enter Try.func33, Try.ntmps33
  go_wp2
  exact bodyPost_ret (v := .tuple #[sv sol0 none 0 none 0, .int .i64 4]) (by simp [results, Try.results33, go_sem, sv, sol0]) rfl (FIN.out _ (by repeat (first | (with_reducible exact Chg.refl _ _) | (with_reducible refine Chg.alloc ?_ _))))
set_option maxRecDepth 100000 in
theorem rsdecode_long (w : World) (A : Option Addr) (c : Nat) (l : List Int) (hl : l.length ≤ 140737488351232) (hlong : 20000 < l.length) : Calls Try.prog 35 #[.slice A l.length c] w (SDecPost (decS l) w) := by
  have hd : decS l = (sol0, 4) := by unfold decS; rw [if_pos hlong]
  rw [hd]
  have fin : ∀ W, Chg (fun _ => False) w W → SDecPost (sol0, 4) w (.returned (.tuple #[sv sol0 none 0 none 0, .int .i64 4])) W := fun W hW => ⟨none, 0, none, 0, rfl, fun h => absurd rfl h, fun h => absurd rfl h, Nat.le_refl _, Nat.le_refl _, hW⟩
  have FIN := Lib.hid fin
  clear hd fin
  go_enter Try.func35, Try.ntmps35
  go_wp2
  exact bodyPost_ret (v := .tuple #[sv sol0 none 0 none 0, .int .i64 4]) (by simp [results, Try.results35, go_sem, sv, sol0]) rfl (FIN.out _ (by repeat (first | (with_reducible exact Chg.refl _ _) | (with_reducible refine Chg.alloc ?_ _))))
theorem sdecode_all (w : World) (A : Option Addr) (c : Nat) (l : List Int) (hr : ReadsI w .u8 A l) (hb : Bytes l) (hl : l.length ≤ 140737488351232) (hcap : l.length ≤ c) : Calls Try.prog 33 #[.slice A l.length c] w (SDecPost (decS l) w) := by
  by_cases h : 20000 < l.length
  · exact sdecode_long w A c l hl h
  · exact sdecode_of w A c l hr hb (by omega) hcap
theorem rsdecode_all (w : World) (A : Option Addr) (c : Nat) (l : List Int) (hr : ReadsI w .u8 A l) (hb : Bytes l) (hl : l.length ≤ 140737488351232) (hcap : l.length ≤ c) : Calls Try.prog 35 #[.slice A l.length c] w (SDecPost (decS l) w) := by
  by_cases h : 20000 < l.length
  · exact rsdecode_long w A c l hl h
  · exact rsdecode_any w A c l hr hb (by omega) hcap
set_option maxRecDepth 100000 in
set_option maxHeartbeats 2000000 in
theorem solutionDecodes_walk (A : Option Addr) (c : Nat) (l : List Int) (w : World) (hr : ReadsI w .u8 A l) (hw : ∀ x ∈ l, (Lit.int .u8 x).wf = true) (hy : l.length * 1 ≤ 140737488351232) (hc : l.length ≤ c) :
    Calls Try.prog 10 #[.slice A l.length c] w fun e w' => e = .returned (.bool true) ∧ Below w.heap.size w w' := by
  have hb := bytes_of_wf hw
  have hl1 : l.length ≤ 140737488351232 := by omega
  have hdec := fun W (hW : Chg (fun _ => False) w W) => sdecode_all W A c l (hr.chg hW (fun _ _ => id)) hb hl1 hc
  have hrdec := fun W (hW : Chg (fun _ => False) w W) => rsdecode_all W A c l (hr.chg hW (fun _ _ => id)) hb hl1 hc
  have hsm := decS_small hb
  obtain ⟨⟨x, e⟩, hx⟩ : ∃ r, r = decS l := ⟨_, rfl⟩
  rw [← hx] at hdec hrdec hsm
  simp only at hsm
  have hsame := fun A2 B2 A3 B3 c2 d2 c3 d3 W h1 h2 h3 h4 => same_sol_any x A2 B2 A3 B3 c2 d2 c3 d3 W h1 h2 h3 h4 (by omega) (by omega)
  unfold SDecPost at hdec hrdec
  unfold BoolPost at hsame
  unfold sv at hdec hrdec hsame
  simp only at hdec hrdec
  have HD := Lib.hid hdec
  have HRD := Lib.hid hrdec
  have HSM := Lib.hid hsame
  clear hr hw hy hb hdec hrdec hsame hx hsm
  go_enter Try.func10, Try.ntmps10
  go_wp2_with fail
  refine (awake15_any w).mono ?_
  rintro e1 w1 ⟨rfl, hC1⟩
  have HC1 := Lib.hid hC1
  clear hC1
  go_wp2_with fail
  refine (HD.out w1 HC1.out).mono ?_
  rintro e2 w2 ⟨A2, c2, B2, d2, rfl, hA2, hB2, hc2, hd2, hC2⟩
  obtain ⟨w3, hw3⟩ : ∃ w3, w3 = w2.alloc (.cells #[.slice A2 x.com.length c2, .slice B2 x.edges.length d2, .int .u64 x.mn, .int .u64 x.sm, .int .u64 x.hi, .int .u64 x.lo] 49) := ⟨_, rfl⟩
  have hb3 : w3.heap[w2.heap.size]? = some (.cells #[.slice A2 x.com.length c2, .slice B2 x.edges.length d2, .int .u64 x.mn, .int .u64 x.sm, .int .u64 x.hi, .int .u64 x.lo] 49) := by rw [hw3]; exact heap_alloc_at _ _
  have hC3 : Chg (fun _ => False) w w3 := by rw [hw3]; exact chg_trans HC1.out (hC2.alloc _)
  have hA3 : ReadsI w3 .i64 A2 x.com := by rw [hw3]; exact hA2.alloc _
  have hB3 : Reads3 w3 .i64 .i64 .u64 B2 x.edges := by rw [hw3]; exact hB2.chg ((Chg.refl (fun _ => False) _).alloc _) (fun _ _ => id)
  obtain ⟨g1, hg1⟩ : ∃ g, g = w2.heap.size := ⟨_, rfl⟩
  rw [← hg1] at hb3
  have HB3 := Lib.hid hb3
  have HC3 := Lib.hid hC3
  have HRD3 := Lib.hid (HRD.out w3 hC3)
  have HAB3 := Lib.hid (And.intro hA3 hB3)
  have HW := Lib.hid hw3
  have HG1 := Lib.hid hg1
  clear hC2 hA2 hB2 hc2 hd2 hb3 hC3 hA3 hB3 hw3 hg1
  simp only []
  go_upto_region 4 with (fail)
  rw [← HW.out, ← HG1.out]
  clear HG1
  go_wp2_with fail
  refine HRD3.out.mono ?_
  rintro e4 w4 ⟨A4, c4, B4, d4, rfl, hA4, hB4, hc4, hd4, hC4⟩
  obtain ⟨w5, hw5⟩ : ∃ w5, w5 = w4.alloc (.cells #[.slice A4 x.com.length c4, .slice B4 x.edges.length d4, .int .u64 x.mn, .int .u64 x.sm, .int .u64 x.hi, .int .u64 x.lo] 49) := ⟨_, rfl⟩
  have hC45 : Chg (fun _ => False) w3 w5 := by rw [hw5]; exact hC4.alloc _
  have hb5 : w5.heap[w4.heap.size]? = some (.cells #[.slice A4 x.com.length c4, .slice B4 x.edges.length d4, .int .u64 x.mn, .int .u64 x.sm, .int .u64 x.hi, .int .u64 x.lo] 49) := by rw [hw5]; exact heap_alloc_at _ _
  have hb35 := chg_heap hC45 HB3.out
  have hA5 : ReadsI w5 .i64 A4 x.com := by rw [hw5]; exact hA4.alloc _
  have hB5 : Reads3 w5 .i64 .i64 .u64 B4 x.edges := by rw [hw5]; exact hB4.chg ((Chg.refl (fun _ => False) _).alloc _) (fun _ _ => id)
  have hsm5 := HSM.out A2 B2 A4 B4 c2 d2 c4 d4 w5 (HAB3.out.1.chg hC45 (fun _ _ => id)) (HAB3.out.2.chg hC45 (fun _ _ => id)) hA5 hB5
  obtain ⟨g2, hg2⟩ : ∃ g, g = w4.heap.size := ⟨_, rfl⟩
  rw [← hg2] at hb5
  obtain ⟨x0, x1, x2, x3, x4, x5⟩ := read6 hb35
  obtain ⟨y0, y1, y2, y3, y4, y5⟩ := read6 hb5
  have HSM5 := Lib.hid hsm5
  have HC5 := Lib.hid (chg_trans HC3.out hC45)
  have HW5 := Lib.hid hw5
  have HG2 := Lib.hid hg2
  clear hA4 hB4 hc4 hd4 hC4 hC45 hb5 hb35 hA5 hB5 hsm5 hw5 HSM HRD3 hg2
  simp only []
  go_upto_region 5 with (fail)
  rw [← HW5.out, ← HG2.out]
  clear HG2
  go_wp2_with fail
  refine HSM5.out.mono ?_
  rintro e8 w8 ⟨rfl, hC8⟩
  have HC8 := Lib.hid hC8
  clear hC8
  go_wp2
  go_ret
  exact ⟨by simp, chg_to_below (chg_trans HC5.out HC8.out)⟩
end Go.Proofs.Ytcdbchdlenkdgaa
