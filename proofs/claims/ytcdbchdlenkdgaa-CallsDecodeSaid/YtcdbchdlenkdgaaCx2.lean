/- The law CallsDecode: its walk. -/
import Derived.Test.YtcdbchdlenkdgaaCs
import Derived.Test.YtcdbchdlenkdgaaCq
import Derived.Test.YtcdbchdlenkdgaaCo
set_option linter.unusedVariables false
set_option linter.unusedSimpArgs false
namespace Go.Proofs.Ytcdbchdlenkdgaa
open Go.RowKit Go.Ps

theorem decC_list {l : List Int} (hb : Bytes l) : (decC l).1.list.length ≤ 8 := by
  rcases decC_err l with h | h
  · obtain ⟨x, hx⟩ : ∃ x, x = (decC l).1 := ⟨_, rfl⟩
    have hd : decC l = (x, 0) := by rw [hx]; exact Prod.ext rfl h
    obtain ⟨_, hf, _⟩ := (decC_iff hb x).1 hd
    unfold formedC at hf
    have h2 := (of_decide_eq_true hf).2.2.2.2.2.1
    rw [← hx]
    split at h2 <;> omega
  · rw [h]; exact Nat.zero_le _
set_option maxHeartbeats 2000000 in
theorem callsDecode_walk (A : Option Addr) (c : Nat) (l : List Int) (w : World) (hr : ReadsI w .u8 A l) (hw : ∀ x ∈ l, (Lit.int .u8 x).wf = true) (hy : l.length * 1 ≤ 140737488351232) (hc : l.length ≤ c) :
    Calls Try.prog 13 #[.slice A l.length c] w fun e w' => e = .returned (.bool true) ∧ Below w.heap.size w w' := by
  have hb := bytes_of_wf hw
  have hl1 : l.length ≤ 140737488351232 := by omega
  by_cases hl : 21000 < l.length
  · clear hr hw hy hb
    go_enter Try.func13, Try.ntmps13
    go_wp2_with fail
    refine (awake22_any w).mono ?_
    rintro e1 w1 ⟨rfl, hC1⟩
    have HC1 := Lib.hid hC1
    clear hC1
    go_wp2_with fail
    refine (awake22_any w1).mono ?_
    rintro e2 w2 ⟨rfl, hC2⟩
    have HC2 := Lib.hid hC2
    clear hC2
    go_wp2
    go_ret
    exact ⟨rfl, chg_to_below (chg_trans HC1.out HC2.out)⟩
  · have hdec := fun W (hW : Chg (fun _ => False) w W) => decode_of W A c l (hr.chg hW (fun _ _ => id)) hb (by omega) hc
    have hrdec := fun W (hW : Chg (fun _ => False) w W) => rdecode_any W A c l (hr.chg hW (fun _ _ => id)) hb (by omega) hc
    have hl8 := decC_list hb
    rw [rdec_eq hb] at hrdec
    obtain ⟨⟨x, e⟩, hx⟩ : ∃ r, r = decC l := ⟨_, rfl⟩
    rw [← hx] at hdec hrdec hl8
    simp only at hl8
    have hsm := fun A2 B2 A3 B3 c2 d2 c3 d3 W h1 h2 h3 h4 => samecall_any x A2 B2 A3 B3 c2 d2 c3 d3 W h1 h2 h3 h4 (by omega)
    unfold DecPost at hdec hrdec
    unfold BoolPost at hsm
    unfold cv at hdec hrdec hsm
    simp only at hdec hrdec
    have HD := Lib.hid hdec
    have HRD := Lib.hid hrdec
    have HSM := Lib.hid hsm
    clear hr hw hy hb hdec hrdec hsm hx hl8
    go_enter Try.func13, Try.ntmps13
    go_wp2_with fail
    refine (awake22_any w).mono ?_
    rintro e1 w1 ⟨rfl, hC1⟩
    have HC1 := Lib.hid hC1
    clear hC1
    go_wp2_with fail
    refine (HD.out w1 HC1.out).mono ?_
    rintro e2 w2 ⟨A2, c2, B2, d2, rfl, hA2, hB2, hc2, hd2, hC2⟩
    obtain ⟨w3, hw3⟩ : ∃ w3, w3 = w2.alloc (.cells #[.int .i64 x.kind, .int .i64 x.who, .int .u64 x.a, .int .u64 x.b, .int .u64 x.c, .slice A2 x.list.length c2, .slice B2 x.bytes.length d2] 60) := ⟨_, rfl⟩
    have hb3 : w3.heap[w2.heap.size]? = some (.cells #[.int .i64 x.kind, .int .i64 x.who, .int .u64 x.a, .int .u64 x.b, .int .u64 x.c, .slice A2 x.list.length c2, .slice B2 x.bytes.length d2] 60) := by rw [hw3]; exact heap_alloc_at _ _
    have hC3 : Chg (fun _ => False) w w3 := by rw [hw3]; exact chg_trans HC1.out (hC2.alloc _)
    have hA3 : ReadsI w3 .u64 A2 x.list := by rw [hw3]; exact hA2.alloc _
    have hB3 : ReadsI w3 .u8 B2 x.bytes := by rw [hw3]; exact hB2.alloc _
    obtain ⟨g1, hg1⟩ : ∃ g, g = w2.heap.size := ⟨_, rfl⟩
    rw [← hg1] at hb3
    have HB3 := Lib.hid hb3
    have HC3 := Lib.hid hC3
    have HRD3 := Lib.hid (HRD.out w3 hC3)
    have HAB3 := Lib.hid (And.intro hA3 hB3)
    have HW := Lib.hid hw3
    clear hC2 hA2 hB2 hc2 hd2 hb3 hC3 hA3 hB3 hw3
    simp only []
    go_upto_region 4 with (fail)
    rw [← HW.out, ← hg1]
    clear hg1
    go_wp2_with fail
    refine HRD3.out.mono ?_
    rintro e4 w4 ⟨A4, c4, B4, d4, rfl, hA4, hB4, hc4, hd4, hC4⟩
    obtain ⟨w5, hw5⟩ : ∃ w5, w5 = w4.alloc (.cells #[.int .i64 x.kind, .int .i64 x.who, .int .u64 x.a, .int .u64 x.b, .int .u64 x.c, .slice A4 x.list.length c4, .slice B4 x.bytes.length d4] 58) := ⟨_, rfl⟩
    have hC45 : Chg (fun _ => False) w3 w5 := by rw [hw5]; exact hC4.alloc _
    have hb5 : w5.heap[w4.heap.size]? = some (.cells #[.int .i64 x.kind, .int .i64 x.who, .int .u64 x.a, .int .u64 x.b, .int .u64 x.c, .slice A4 x.list.length c4, .slice B4 x.bytes.length d4] 58) := by rw [hw5]; exact heap_alloc_at _ _
    have hb35 := chg_heap hC45 HB3.out
    have hA5 : ReadsI w5 .u64 A4 x.list := by rw [hw5]; exact hA4.alloc _
    have hB5 : ReadsI w5 .u8 B4 x.bytes := by rw [hw5]; exact hB4.alloc _
    have hsm5 := HSM.out A2 B2 A4 B4 c2 d2 c4 d4 w5 (HAB3.out.1.chg hC45 (fun _ _ => id)) (HAB3.out.2.chg hC45 (fun _ _ => id)) hA5 hB5
    obtain ⟨g2, hg2⟩ : ∃ g, g = w4.heap.size := ⟨_, rfl⟩
    rw [← hg2] at hb5
    obtain ⟨x0, x1, x2, x3, x4, x5, x6⟩ := read7 hb35
    obtain ⟨y0, y1, y2, y3, y4, y5, y6⟩ := read7 hb5
    have HSM5 := Lib.hid hsm5
    have HC5 := Lib.hid (chg_trans HC3.out hC45)
    have HW5 := Lib.hid hw5
    clear hA4 hB4 hc4 hd4 hC4 hC45 hb5 hb35 hA5 hB5 hsm5 hw5 HSM HRD3
    simp only []
    go_upto_region 5 with (fail)
    rw [← HW5.out, ← hg2]
    clear hg2
    go_wp2_with fail
    refine HSM5.out.mono ?_
    rintro e8 w8 ⟨rfl, hC8⟩
    have HC8 := Lib.hid hC8
    clear hC8
    go_wp2
    go_ret
    exact ⟨by simp, chg_to_below (chg_trans HC5.out HC8.out)⟩
end Go.Proofs.Ytcdbchdlenkdgaa
