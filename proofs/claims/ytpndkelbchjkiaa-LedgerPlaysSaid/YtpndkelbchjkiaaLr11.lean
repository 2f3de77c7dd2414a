/- A ledger plays as the document's: the law's walk. -/
import Derived.Test.YtpndkelbchjkiaaLr10
set_option linter.unusedVariables false
set_option linter.unusedSimpArgs false
namespace Go.Proofs.Ytpndkelbchjkiaa
open Go.RowKit Go.Ps
theorem two_same {w0 W : World} {g g2 n : Nat} {V V2 : Value} (h : Two w0 g V g2 V2 n W) (hn : n ≤ 1000) : Calls Try.prog 19 #[.pointer (some ⟨g, 0, none⟩), .pointer (some ⟨g2, 0, none⟩)] W fun e w' => e = .returned (.bool true) ∧ Two w0 g V g2 V2 n w' := by
  obtain ⟨s, L, L2, h1, h2, h3, h4, h5, h6, h7⟩ := id h
  refine (same_any h1 h2 h6 (by omega)).mono ?_
  rintro e w' ⟨rfl, hC⟩
  exact ⟨rfl, h.keep hC⟩
set_option maxRecDepth 20000 in
set_option maxHeartbeats 8000000 in
theorem ledgerPlays_walk (A : Option Addr) (c : Nat) (bl : List Int) (B : Option Addr) (d : Nat) (l : List (Int × Int × Int × Int)) (w : World) (hr : ReadsI w .u64 A bl) (hw : ∀ x ∈ bl, (Lit.int .u64 x).wf = true) (hy : bl.length * 8 ≤ 140737488351232)
    (hs : Reads4 w .i64 .i64 .i64 .u64 B l ∧ ∀ z ∈ l, (Lit.int .i64 z.1).wf = true ∧ (Lit.int .i64 z.2.1).wf = true ∧ (Lit.int .i64 z.2.2.1).wf = true ∧ (Lit.int .u64 z.2.2.2).wf = true) :
    Calls Try.prog 5 #[.slice A bl.length c, .slice B l.length d] w fun e w' => e = .returned (.bool true) ∧ Below w.heap.size w w' := by
  have hbU : AllU bl := fun x hx => by have := hw x hx; unfold U64; simp [Lit.wf, IntKind.min, IntKind.max, IntKind.signed, IntKind.bits] at this; omega
  have hxU : ∀ k, k < l.length → U64 (l.getD k d4).2.2.2 := fun k hk => by
    have hm : l.getD k d4 ∈ l := by
      rw [List.getD_eq_getElem?_getD, List.getElem?_eq_getElem hk]
      exact List.getElem_mem hk
    have := (hs.2 _ hm).2.2.2
    generalize l.getD k d4 = z at this
    unfold U64; simp [Lit.wf, IntKind.min, IntKind.max, IntKind.signed, IntKind.bits] at this; omega
  have hs := hs.1
  obtain ⟨n, hn⟩ : ∃ n, n = bl.length := ⟨_, rfl⟩
  obtain ⟨m, hm⟩ : ∃ m, m = l.length := ⟨_, rfl⟩
  rw [← hn, ← hm]
  have hbig : ∀ (n m : Nat), (100 < n ∨ 200 < m) → Calls Try.prog 5 #[.slice A n c, .slice B m d] w fun e w' => e = .returned (.bool true) ∧ Below w.heap.size w w' := by
    intro n m h
    clear hr hw hy hbU hxU hs hn hm
    by_cases h1 : 100 < n
    · clear h
      go_enter Try.func5, Try.ntmps5
      go_wp2_with fail
      refine (awake_any _).mono ?_
      rintro e w1 ⟨rfl, hC⟩
      have HC := Lib.hid hC
      clear hC
      go_wp2_with fail
      refine (awake_any _).mono ?_
      rintro e w2 ⟨rfl, hC⟩
      have HC2 := Lib.hid hC
      clear hC
      go_wp2
      go_ret
      exact ⟨rfl, (HC.out.trans HC2.out (fun _ _ h => h)).below (fun k hk => ⟨hk, id⟩)⟩
    · have h2 : 200 < m := by omega
      clear h
      go_enter Try.func5, Try.ntmps5
      go_wp2_with fail
      refine (awake_any _).mono ?_
      rintro e w1 ⟨rfl, hC⟩
      have HC := Lib.hid hC
      clear hC
      go_wp2_with fail
      refine (awake_any _).mono ?_
      rintro e w2 ⟨rfl, hC⟩
      have HC2 := Lib.hid hC
      clear hC
      go_wp2
      go_ret
      exact ⟨rfl, (HC.out.trans HC2.out (fun _ _ h => h)).below (fun k hk => ⟨hk, id⟩)⟩
  by_cases h100 : 100 < n
  · exact hbig n m (.inl h100)
  by_cases h200 : 200 < m
  · exact hbig n m (.inr h200)
  have HH := Lib.hid (⟨hr, hbU, hxU, hs, hn, hm⟩ : _ ∧ _ ∧ _ ∧ _ ∧ _ ∧ _)
  clear hr hw hy hbU hxU hs hn hm hbig
  go_enter Try.func5, Try.ntmps5
  go_wp2_with fail
  refine (awake_any _).mono ?_
  rintro e w1 ⟨rfl, hC⟩
  have HC := Lib.hid hC
  clear hC
  go_wp2_with fail
  have hnew := new_any bl w1 A c (HH.out.1.chg HC.out (fun _ _ => id)) (by have := HH.out.2.2.2.2.1; omega) HH.out.2.1
  rw [← HH.out.2.2.2.2.1] at hnew
  refine hnew.mono ?_
  intro e w2 hN
  have hrn : ∀ W, Chg (fun _ => False) w W → Calls Try.prog 17 #[.slice A n c] W (RNew bl W) := fun W hC => by
    have := rnew_any bl W A c (HH.out.1.chg hC (fun _ _ => id)) (by have := HH.out.2.2.2.2.1; omega) HH.out.2.1
    rw [← HH.out.2.2.2.2.1] at this
    exact this
  by_cases h32 : 32 < bl.length
  · unfold NewPost at hN
    rw [if_pos h32] at hN
    obtain ⟨rfl, hC2⟩ := hN
    have HC2 := Lib.hid (HC.out.trans hC2 (fun _ _ h => h))
    have hr2 := hrn _ HC2.out
    have H32 := Lib.hid h32
    clear hC2 hnew hrn h32
    go_wp2_with fail
    refine hr2.mono ?_
    intro e w3 hN
    unfold RNew at hN
    rw [if_pos H32.out] at hN
    obtain ⟨rfl, hC3⟩ := hN
    have HB := Lib.hid ((HC2.out.trans hC3 (fun _ _ h => h)).below (B := w.heap.size) (fun k hk => ⟨hk, id⟩))
    clear hC3 hr2
    go_wp2
    go_ret
    exact ⟨rfl, HB.out⟩
  by_cases hsu : (sumU 0 bl).2 = 0
  · obtain ⟨g, V, rfl, hL, hC2, hM⟩ := new_ls (by omega) hsu hN
    have HC2 := Lib.hid (HC.out.trans hC2 (fun _ _ h => h))
    have hr2 := hrn _ HC2.out
    have HL := Lib.hid (⟨hL, hM, h32, hsu⟩ : _ ∧ _ ∧ _ ∧ _)
    clear hC2 hnew hrn h32 hL hM hN hsu
    go_wp2_with fail
    refine hr2.mono ?_
    intro e w3 hN
    obtain ⟨hL, hM, h32, hsu⟩ := HL.out
    unfold RNew at hN
    rw [if_neg h32, if_pos hsu] at hN
    obtain ⟨g2, V2, rfl, hL2, hC3, hM2⟩ := hN
    have HI : Hid (Two w g V g2 V2 n w3) := Lib.hid (by
      refine ⟨_, _, _, hL.keep hC3, hL2, fun k hk hk2 => ?_, HC2.out.trans hC3 (fun _ _ h => h), fun k hk => ?_, new_inv HH.out.2.1 hsu, ?_⟩
      · have := hL.at_.mine_lt hk
        have := hM2 k hk2
        omega
      · rcases hk with e | e
        · exact Nat.le_trans HC.out.size (hM k e)
        · exact Nat.le_trans HC2.out.size (hM2 k e)
      · simp only [List.length_map]
        exact HH.out.2.2.2.2.1.symm)
    clear hL hM h32 hsu hL2 hC3 hM2 hr2 HL
    go_wp2
    go_loopw [49] (fun i wr => ∃ k : Nat, k ≤ m ∧ i = .int .i64 k ∧ Hid (Two w g V g2 V2 n wr)) (fun i _ => m - (intOf i).toNat)
    case atStart => exact ⟨0, by omega, rfl, HI⟩
    case round =>
      obtain ⟨k, hk, rfl, HK⟩ := hrel
      by_cases hk2 : k < m
      · obtain ⟨hr, hbU, hxU, hs, hn, hm⟩ := HH.out
        obtain ⟨_, _, _, _, _, _, hCw, _⟩ := id HK.out
        obtain ⟨b0, o0, rfl, _, hcells⟩ := (reads4_chg0 hs hCw) (by rintro rfl; simp at hm; omega)
        obtain ⟨c0, c1, c2, c3⟩ := hcells k (by omega)
        have hx := hxU k (by omega)
        obtain ⟨z, hz⟩ : ∃ z, z = l.getD k d4 := ⟨_, rfl⟩
        rw [← hz] at c0 c1 c2 c3 hx
        obtain ⟨kd, a, b, x⟩ := z
        simp only at c0 c1 c2 c3 hx
        have hdo := do_any HK.out (by omega) kd a b x hx
        clear hr hbU hxU hs hn hm hCw hcells hx hz
        go_wp2_with fail
        refine hdo.mono ?_
        rintro e w4 ⟨rfl, h4⟩
        have hsa := two_same h4 (by omega)
        clear hdo h4 c0 c1 c2 c3
        go_wp2_with fail
        refine hsa.mono ?_
        rintro e w5 ⟨rfl, h5⟩
        have H5 := Lib.hid h5
        clear hsa h5
        go_wp2
        go_roundw
        case rel => exact ⟨k + 1, by omega, by go_num, H5⟩
        case measure => simp [intOf]; omega
      · have ek : k = m := by omega
        subst ek
        obtain ⟨_, _, _, _, _, _, hCw, _⟩ := id HK.out
        have HB := Lib.hid (hCw.below (B := w.heap.size) (fun k hk => ⟨hk, id⟩))
        clear hCw
        go_wp2
        go_ret
        exact ⟨rfl, HB.out⟩
  · unfold NewPost at hN
    rw [if_neg h32, if_neg hsu] at hN
    obtain ⟨rfl, hC2⟩ := hN
    have HC2 := Lib.hid (HC.out.trans hC2 (fun _ _ h => h))
    have hr2 := hrn _ HC2.out
    have HS := Lib.hid (⟨h32, hsu⟩ : _ ∧ _)
    obtain ⟨er, her⟩ : ∃ e, e = (sumU 0 bl).2 := ⟨_, rfl⟩
    rw [← her]
    have HE := Lib.hid her
    have hne : (er == 0) = false := by rw [her]; exact beq_eq_false_iff_ne.2 hsu
    clear hC2 hnew hrn h32 hsu her
    go_wp2_with fail
    refine hr2.mono ?_
    intro e w3 hN
    unfold RNew at hN
    rw [if_neg HS.out.1, if_neg HS.out.2, ← HE.out] at hN
    obtain ⟨rfl, hC3⟩ := hN
    have HB := Lib.hid ((HC2.out.trans hC3 (fun _ _ h => h)).below (B := w.heap.size) (fun k hk => ⟨hk, id⟩))
    clear hC3 hr2
    go_wp2
    go_ret
    exact ⟨rfl, HB.out⟩
end Go.Proofs.Ytpndkelbchjkiaa
