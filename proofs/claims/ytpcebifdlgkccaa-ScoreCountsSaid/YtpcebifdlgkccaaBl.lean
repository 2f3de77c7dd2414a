/- The law ScoreCounts: its walk. -/
import Derived.Test.YtpcebifdlgkccaaBk
import Derived.Test.YtpcebifdlgkccaaLb
import Derived.Deep.Cut
import Derived.Deep.DeepCutAuto
import Derived.Deep.RegionLaw
set_option linter.unusedVariables false
set_option linter.unusedSimpArgs false
namespace Go.Proofs.Ytpcebifdlgkccaa
open Go.RowKit Go.Ps
section
open Go.Joins Go.WideShapes
variable {H : Type} {enc : TypeId × Value → H} {W : World} {base : Nat} {spare : Nat → Bool} {held : Bool}
theorem open_edges {A : Option Addr} {n c : Nat} {d : DataW H} {p : List MemPlace} (h : DataW.Trod enc Try.prog W base spare held 23 (.slice A n c) d p) :
    ∃ zs : List (Int × Int × Int), n = zs.length ∧ (Reads3 W .i64 .i64 .u64 A zs ∧ ∀ e ∈ zs, U64 e.2.2) := by
  obtain ⟨zs, rfl, hr, hw⟩ := open_reads3 Try.underlying23 Try.underlying39 (by kernel_rfl) rfl rfl rfl (by kernel_rfl) (by kernel_rfl) (by kernel_rfl) Try.underlying3 Try.underlying3 Try.underlying29 h
  refine ⟨zs, rfl, hr, fun z hz => ?_⟩
  have := Go.bounds_u64 (hw z hz).2.2
  exact ⟨by omega, by omega⟩
end
theorem suppA_len (es : List (Int × Int × Int)) : ∀ (com acc : List Int), (suppA acc com es).1.length ≤ acc.length + com.length
  | [], acc => by simp [suppA]
  | c :: com, acc => by
    unfold suppA
    split
    · have := suppA_len es com (acc ++ [(suppE c 0 es).1])
      simp only [List.length_append, List.length_cons, List.length_nil] at this ⊢
      omega
    · simp
set_option maxRecDepth 100000 in
set_option maxHeartbeats 4000000 in
theorem scoreCounts_walk (A : Option Addr) (c : Nat) (com : List Int) (B : Option Addr) (d : Nat) (es : List (Int × Int × Int)) (C : Option Addr) (f : Nat) (sup : List Int) (w : World)
    (hA : ReadsI w .i64 A com) (hA2 : ∀ x ∈ com, (Lit.int .i64 x).wf = true) (hA3 : com.length * 8 ≤ 140737488351232) (hA4 : com.length ≤ c)
    (hB : Reads3 w .i64 .i64 .u64 B es ∧ ∀ e ∈ es, U64 e.2.2)
    (hC : ReadsI w .u64 C sup) (hC2 : ∀ x ∈ sup, (Lit.int .u64 x).wf = true) (hC3 : sup.length * 8 ≤ 140737488351232) (hC4 : sup.length ≤ f) :
    Calls Try.prog 3 #[.slice A com.length c, .slice B es.length d, .slice C sup.length f] w fun e w' => e = .returned (.bool true) ∧ Below w.heap.size w w' := by
  have hu : AllU sup := fun x hx => by have := Go.bounds_u64 (hC2 x hx); exact ⟨by omega, by omega⟩
  have hof := fun W (h : Chg (fun _ => False) w W) (hl : sup.length ≤ 400) => of_any sup W C f (hC.chg h (fun _ _ => id)) (by omega) hu
  have hrof := fun W (h : Chg (fun _ => False) w W) (hl : sup.length ≤ 400) => rof_any sup W C f (hC.chg h (fun _ _ => id)) hl hu
  have hs6 := fun W (h : Chg (fun _ => False) w W) (hl : com.length ≤ 1000) (hl2 : es.length ≤ 1000) => supports6_any W A B c d com es (hA.chg h (fun _ _ => id)) (hB.1.chg h (fun _ _ => id)) hB.2 hl hl2
  have hs7 := fun W (h : Chg (fun _ => False) w W) (hl : com.length ≤ 1000) (hl2 : es.length ≤ 1000) => supports7_any W A B c d com es (hA.chg h (fun _ _ => id)) (hB.1.chg h (fun _ _ => id)) hB.2 hl hl2
  have hll := suppA_len es com []
  obtain ⟨r, hr⟩ : ∃ r, r = scoreOf sup := ⟨_, rfl⟩
  obtain ⟨s, hs⟩ : ∃ s, s = suppA [] com es := ⟨_, rfl⟩
  rw [← hr] at hof hrof
  rw [← hs] at hs6 hs7 hll
  obtain ⟨sl, sk⟩ := s
  obtain ⟨⟨r0, r1, r2, r3⟩, rk⟩ := r
  unfold OfPost Sc.v at hof hrof
  unfold SuppPost at hs6 hs7
  simp only [List.length_nil, Nat.zero_add] at *
  obtain ⟨n1, h1⟩ : ∃ n, n = com.length := ⟨_, rfl⟩
  obtain ⟨n2, h2⟩ : ∃ n, n = es.length := ⟨_, rfl⟩
  obtain ⟨n3, h3⟩ : ∃ n, n = sup.length := ⟨_, rfl⟩
  simp only [← h1, ← h2, ← h3] at *
  clear hA hA2 hB hC hC2 hu hr hs h1 h2 h3
  by_cases hsm : n1 ≤ 50 ∧ n2 ≤ 400 ∧ n3 ≤ 400
  · obtain ⟨l1, l2, l3⟩ := hsm
    have d1 : decide ((50 : Int) < (n1 : Int)) = false := by simp; omega
    have d2 : decide ((400 : Int) < (n2 : Int)) = false := by simp; omega
    have d3 : decide ((400 : Int) < (n3 : Int)) = false := by simp; omega
    have HOF := Lib.hid hof
    have HROF := Lib.hid hrof
    have HS6 := Lib.hid hs6
    have HS7 := Lib.hid hs7
    clear hof hrof hs6 hs7
    go_enter Try.func3, Try.ntmps3
    go_wp2_with fail
    refine (awake_any _).mono ?_
    rintro e1 w1 ⟨rfl, hC1⟩
    have HC1 := Lib.hid hC1
    clear hC1
    go_wp2_with fail
    refine (HS6.out _ HC1.out (by omega) (by omega)).mono ?_
    rintro e2 w2 ⟨v1, rfl, hN1⟩
    have HN1 := Lib.hid hN1
    have HC2 := Lib.hid (chg_trans HC1.out hN1.2.1)
    clear hN1
    go_wp2_with fail
    refine (HS7.out _ HC2.out (by omega) (by omega)).mono ?_
    rintro e3 w3 ⟨v2, rfl, hN2⟩
    have HN2 := Lib.hid hN2
    have HC3 := Lib.hid (chg_trans HC2.out hN2.2.1)
    clear hN2
    go_wp2_with fail
    refine (HOF.out _ HC3.out l3).mono ?_
    rintro e4 w4 ⟨rfl, hC4⟩
    have HC4 := Lib.hid (chg_trans HC3.out hC4)
    have HD4 := Lib.hid hC4
    clear hC4
    go_wp2_with fail
    refine (HROF.out _ (HC4.out.alloc _) l3).mono ?_
    rintro e5 w5 ⟨rfl, hC5⟩
    have hg4 := chg_kp hC5 (heap_alloc_at w4 (.cells #[.int .u64 r0, .int .u64 r1, .int .u64 r2, .int .u64 r3] 31)) id
    obtain ⟨g1, hg1⟩ : ∃ g, g = w4.heap.size := ⟨_, rfl⟩
    have hlt : g1 < w5.heap.size := by rw [hg1]; exact heap_lt hg4
    have HC5 := Lib.hid (chg_trans (HC4.out.alloc _) hC5)
    have HD5 := Lib.hid (chg_trans (HD4.out.alloc _) hC5)
    rw [← hg1] at hg4 ⊢
    have HG4 := Lib.hid hg4
    clear hC5 hg4 hg1
    go_upto_region 7 with (fail)
    obtain ⟨w6, hw6⟩ : ∃ W, W = w5.alloc (.cells #[.int .u64 r0, .int .u64 r1, .int .u64 r2, .int .u64 r3] 31) := ⟨_, rfl⟩
    obtain ⟨g2, hg2⟩ : ∃ g, g = w5.heap.size := ⟨_, rfl⟩
    rw [← hw6, ← hg2]
    have h61 : w6.heap[g1]? = some (.cells #[.int .u64 r0, .int .u64 r1, .int .u64 r2, .int .u64 r3] 31) := by rw [hw6]; exact heap_alloc_ne HG4.out
    have h62 : w6.heap[g2]? = some (.cells #[.int .u64 r0, .int .u64 r1, .int .u64 r2, .int .u64 r3] 31) := by rw [hw6, hg2]; exact heap_alloc_at _ _
    have HC6 := Lib.hid (show Chg (fun _ => False) w w6 by rw [hw6]; exact HC5.out.alloc _)
    have hR2 : New 29 .u64 w2 w6 v2 sl := HN2.out.chg (by rw [hw6]; exact HD5.out.alloc _)
    have hR1 : New 29 .u64 w1 w6 v1 sl := (HN1.out.chg HN2.out.2.1).chg (by rw [hw6]; exact HD5.out.alloc _)
    obtain ⟨A1, c1, rfl, hq1⟩ := hR1.form
    obtain ⟨A2, c2, rfl, hq2⟩ := hR2.form
    have hsm := fun W (h : Chg (fun _ => False) w6 W) => same10_any W A1 A2 c1 c2 sl (hq1.chg h (fun _ _ => id)) (hq2.chg h (fun _ _ => id)) (by omega)
    have HSM := Lib.hid hsm
    have H61 := Lib.hid h61
    have H62 := Lib.hid h62
    clear hsm h61 h62 hR1 hR2 hq1 hq2 hw6 hg2 hlt
    go_wp2_with fail
    refine (HSM.out _ (Chg.refl _ _)).mono ?_
    rintro e6 w7 ⟨rfl, hC7⟩
    obtain ⟨x0, x1, x2, x3⟩ := read4 (chg_kp hC7 H61.out id)
    obtain ⟨y0, y1, y2, y3⟩ := read4 (chg_kp hC7 H62.out id)
    have HC7 := Lib.hid (chg_trans HC6.out hC7)
    clear hC7
    go_wp2
    go_ret
    exact ⟨rfl, chg_to_below HC7.out⟩
  · clear hof hrof hs6 hs7
    by_cases l1 : n1 ≤ 50
    · have d1 : decide ((50 : Int) < (n1 : Int)) = false := by simp; omega
      by_cases l2 : n2 ≤ 400
      · have d2 : decide ((400 : Int) < (n2 : Int)) = false := by simp; omega
        have d3 : decide ((400 : Int) < (n3 : Int)) = true := by simp; omega
        go_enter Try.func3, Try.ntmps3
        go_wp2_with fail
        refine (awake_any _).mono ?_
        rintro e1 w1 ⟨rfl, hC1⟩
        have HC1 := Lib.hid hC1
        clear hC1
        go_wp2_with fail
        refine (awake_any _).mono ?_
        rintro e1 w2 ⟨rfl, hC2⟩
        have HC2 := Lib.hid (chg_trans HC1.out hC2)
        clear hC2
        go_wp2
        go_ret
        exact ⟨rfl, chg_to_below HC2.out⟩
      · have d2 : decide ((400 : Int) < (n2 : Int)) = true := by simp; omega
        go_enter Try.func3, Try.ntmps3
        go_wp2_with fail
        refine (awake_any _).mono ?_
        rintro e1 w1 ⟨rfl, hC1⟩
        have HC1 := Lib.hid hC1
        clear hC1
        go_wp2_with fail
        refine (awake_any _).mono ?_
        rintro e1 w2 ⟨rfl, hC2⟩
        have HC2 := Lib.hid (chg_trans HC1.out hC2)
        clear hC2
        go_wp2
        go_ret
        exact ⟨rfl, chg_to_below HC2.out⟩
    · have d1 : decide ((50 : Int) < (n1 : Int)) = true := by simp; omega
      go_enter Try.func3, Try.ntmps3
      go_wp2_with fail
      refine (awake_any _).mono ?_
      rintro e1 w1 ⟨rfl, hC1⟩
      have HC1 := Lib.hid hC1
      clear hC1
      go_wp2_with fail
      refine (awake_any _).mono ?_
      rintro e1 w2 ⟨rfl, hC2⟩
      have HC2 := Lib.hid (chg_trans HC1.out hC2)
      clear hC2
      go_wp2
      go_ret
      exact ⟨rfl, chg_to_below HC2.out⟩
end Go.Proofs.Ytpcebifdlgkccaa
