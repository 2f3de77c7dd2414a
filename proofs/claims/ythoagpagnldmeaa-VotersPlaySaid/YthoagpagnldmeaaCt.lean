/- The law ChainStops: its walk. -/
import Derived.Test.YthoagpagnldmeaaCr
set_option linter.unusedVariables false
set_option linter.unusedSimpArgs false
namespace Go.Proofs.Ythoagpagnldmeaa
open Go.RowKit Go.Ps
theorem Nm.snoc {A B : List Mem} {LA LB : List (Int × Int)} (hA : Nm A LA) (hB : Nm B LB) (b : Nat) (h z : Int) : Nm (A ++ ⟨b, h, .int .i64 z⟩ :: B) (LA ++ (h, z) :: LB) := by
  unfold Nm at *
  simp [hA, hB]
def StI (w0 : World) (g j : Nat) (W : World) : Prop := ∃ mp X L, ChW 95 54 W g mp X j ∧ Nm X L ∧ X.length = j ∧ Chg (fun _ => False) w0 W ∧ (∀ k, Mine g mp X k → w0.heap.size ≤ k)
theorem StI.put {w0 w w' : World} {g j : Nat} {mp : Option Nat} {X : List Mem} {L : List (Int × Int)} {b : Nat} {r : Value} (hL : Nm X L) (hl : X.length = j) (hC : Chg (fun _ => False) w0 w) (hm : ∀ k, Mine g mp X k → w0.heap.size ≤ k)
    (h : ChPost 95 54 r g mp X (X ++ ⟨b, (j : Int) + 1, .int .i64 j⟩ :: []) ((j : Int) + 1) w w') : StI w0 g (j + 1) w' := by
  obtain ⟨mp', h1, h2, h3⟩ := h
  refine ⟨mp', _, _, h1, Nm.snoc hL (show Nm [] [] from rfl) b _ _, by simp [hl], hC.trans h2 (fun k hk hk2 => by have := hm k hk2; omega), fun k hk => ?_⟩
  rcases h3 k hk with h4 | h4
  · exact hm k h4
  · exact Nat.le_trans hC.size h4
theorem u8_bounds {n : Int} (h : (Lit.int .u8 n).wf = true) : 0 ≤ n ∧ n < 256 := by
  simp [Lit.wf, IntKind.min, IntKind.max, IntKind.signed, IntKind.bits] at h
  omega
set_option maxRecDepth 100000 in
set_option maxHeartbeats 2000000 in
theorem chainStops_walk (n s : Int) (w : World) (h0 : (Lit.int .u8 n).wf = true) (h1 : (Lit.int .u8 s).wf = true) : Calls Try.prog 3 #[.int .u8 n, .int .u8 s] w fun e w' => e = .returned (.bool true) ∧ Below w.heap.size w w' := by
  obtain ⟨n0, n1⟩ := u8_bounds h0
  obtain ⟨s0, s1⟩ := u8_bounds h1
  obtain ⟨M, hM⟩ : ∃ M : Nat, n.tmod 40 = (M : Int) := ⟨(n.tmod 40).toNat, by rw [Int.toNat_of_nonneg]; exact Int.tmod_nonneg _ n0⟩
  obtain ⟨S, hS⟩ : ∃ S : Nat, s.tmod 50 = (S : Int) := ⟨(s.tmod 50).toNat, by rw [Int.toNat_of_nonneg]; exact Int.tmod_nonneg _ s0⟩
  have hM40 : M < 40 := by have := Int.tmod_lt_of_pos n (show (0 : Int) < 40 by omega); omega
  have hS50 : S < 50 := by have := Int.tmod_lt_of_pos s (show (0 : Int) < 50 by omega); omega
  clear h0 h1 n0 n1 s0 s1
  have hwM : wrap64 (M : Int) = M := by unfold wrap64; omega
  have hwS : wrap64 (S : Int) = S := by unfold wrap64; omega
  have HM := Lib.hid hM40
  have HS := Lib.hid hS50
  clear hM40 hS50
  go_enter Try.func3, Try.ntmps3
  go_wp2_with fail
  refine (awake_any _).mono ?_
  rintro e w1 ⟨rfl, hC⟩
  have HC := Lib.hid hC
  clear hC
  go_wp2_with fail
  refine (new_any _).mono ?_
  rintro e w2 ⟨g, rfl, hg, hch, hC⟩
  have hI : StI w1 g 0 w2 := ⟨none, [], [], hch, rfl, rfl, hC, fun k hk => by
    rcases hk with rfl | hk | ⟨x, hx, _⟩
    · exact hg
    · cases hk
    · cases hx⟩
  have HI := Lib.hid hI
  clear hI hg hch hC
  go_wp2
  rw [hwM]
  go_loopw [14] (fun i wr => ∃ j : Nat, i = .int .i64 j ∧ j ≤ M ∧ StI w1 g j wr) (fun i _ => M - (intOf i).toNat)
  case atStart => exact ⟨0, rfl, by omega, HI.out⟩
  case round =>
    obtain ⟨j, rfl, hj, hI⟩ := hrel
    have hM40 := HM.out
    obtain ⟨mp, X, L, hch, hL, hl, hCw, hmn⟩ := hI
    by_cases hjM : j < M
    · have hlt : (j : Int) < M := by omega
      have hw : wrap64 ((j : Int) + 1) = ((j + 1 : Nat) : Int) := by unfold wrap64; omega
      have HW := Lib.hid hw
      have hla := last_any j hch (by omega) (by omega)
      have HF := Lib.hid (⟨hL, hl, hCw, hmn, hjM⟩ : _ ∧ _ ∧ _ ∧ _ ∧ _)
      clear hch hL hl hCw hmn hw hj hjM hM40
      go_wp2_with fail
      refine hla.mono ?_
      rintro e w3 ⟨b, rfl, hp⟩
      have HP := Lib.hid (StI.put HF.out.1 HF.out.2.1 HF.out.2.2.1 HF.out.2.2.2.1 hp)
      clear hla hp
      go_wp2
      go_roundw
      case rel => exact ⟨j + 1, by rw [HW.out], HF.out.2.2.2.2, HP.out⟩
      case measure =>
        have h1 := HF.out.2.2.2.2
        rw [HW.out]
        simp only [intOf, Int.toNat_natCast]
        omega
    · have hjM2 : j = M := by omega
      subst hjM2
      have hLl := hL.length
      have hso := some_any (N := S) hch hL (by omega) (by omega)
      have HC2 := Lib.hid (HC.out.trans hCw (fun _ _ => id))
      have HF := Lib.hid (⟨hch, hL, hl, hLl, hM40⟩ : _ ∧ _ ∧ _ ∧ _ ∧ _)
      clear hch hL hl hCw hmn hj hjM hM40 hLl HC HM HI
      go_wp2_with fail
      refine hso.mono ?_
      rintro e w3 ⟨rfl, hC3⟩
      obtain ⟨hch, hL, hl, hLl, hM40⟩ := HF.out
      have hch3 : ChW 95 54 w3 g mp X j := hch.keep hC3 (fun _ _ => id)
      have hs2 := some_any (N := 1000) hch3 hL (by omega) (by omega)
      rw [show min (1000 : Int) L.length = j by omega] at hs2
      have HC3 := Lib.hid (HC2.out.trans hC3 (fun _ _ => id))
      have HF3 := Lib.hid (⟨hch3, hl⟩ : _ ∧ _)
      by_cases hSj : S < j
      · have hk : min (S : Int) L.length = S := by omega
        rw [hk]
        clear hch hL hl hLl hM40 hch3 hk hC3 HF HC2 hso
        go_wp2_with fail
        refine hs2.mono ?_
        rintro e w4 ⟨rfl, hC4⟩
        have hlen := len_any (HF3.out.1.keep hC4 (fun _ _ => id))
        rw [HF3.out.2] at hlen
        have HC4 := Lib.hid (HC3.out.trans hC4 (fun _ _ => id))
        clear hC4 hs2 HC3 HF3
        go_wp2_with fail
        refine hlen.mono ?_
        rintro e w5 ⟨rfl, rfl⟩
        clear hlen
        go_wp2
        go_ret
        exact ⟨rfl, HC4.out.below (fun k hk => ⟨hk, id⟩)⟩
      · have hk : min (S : Int) L.length = j := by omega
        rw [hk]
        clear hch hL hl hLl hM40 hch3 hk hC3 HF HC2 hso
        go_wp2_with fail
        refine hs2.mono ?_
        rintro e w4 ⟨rfl, hC4⟩
        have hlen := len_any (HF3.out.1.keep hC4 (fun _ _ => id))
        rw [HF3.out.2] at hlen
        have HC4 := Lib.hid (HC3.out.trans hC4 (fun _ _ => id))
        clear hC4 hs2 HC3 HF3
        go_wp2_with fail
        refine hlen.mono ?_
        rintro e w5 ⟨rfl, rfl⟩
        clear hlen
        go_wp2
        go_ret
        exact ⟨rfl, HC4.out.below (fun k hk => ⟨hk, id⟩)⟩
end Go.Proofs.Ythoagpagnldmeaa
