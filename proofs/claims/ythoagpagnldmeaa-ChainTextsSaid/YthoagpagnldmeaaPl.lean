/- The law ChainPlays: its walk. -/
import Derived.Test.YthoagpagnldmeaaSa
import Derived.Test.YthoagpagnldmeaaDp
import Derived.Test.YthoagpagnldmeaaDq
set_option linter.unusedVariables false
set_option linter.unusedSimpArgs false
namespace Go.Proofs.Ythoagpagnldmeaa
open Go.RowKit Go.Ps
theorem do_any {w0 W : World} {g c : Nat} {mp : Option Nat} {X : List Mem} {L : List (Int × Int)} {v : Value} {n : Int} (kd a b z : Int) (h : Sim w0 W g c mp X L v n) (h0 : 0 ≤ n) (h1 : n < 1000) (hl : L.length ≤ 1000) :
    Calls Try.prog 24 #[.pointer (some ⟨g, 0, none⟩), .pointer (some ⟨c, 0, none⟩), .agg #[.int .i64 kd, .int .i64 a, .int .i64 b, .int .i64 z]] W (DoPost w0 g c n L.length) := by
  by_cases k1 : kd = 1
  · subst k1; exact do_1 a b z h h0 h1 hl
  by_cases k2 : kd = 2
  · subst k2; exact do_2 a b z h h0 h1 hl
  by_cases k3 : kd = 3
  · subst k3; exact do_3 a b z h h0 h1 hl
  by_cases k4 : kd = 4
  · subst k4; exact do_4 a b z h h0 h1 hl
  by_cases k5 : kd = 5
  · subst k5; exact do_5 a b z h h0 h1 hl
  by_cases k6 : kd = 6
  · subst k6; exact do_6 a b z h h0 h1 hl
  exact do_7 kd a b z h h0 h1 hl k1 k2 k3 k4 k5 k6
section
open Go.Joins Go.WideShapes
theorem open_script {H : Type} {enc : TypeId × Value → H} {W : World} {base : Nat} {spare : Nat → Bool} {held : Bool} {a : Option Addr} {len cap : Nat} {d : DataW H} {ps : List MemPlace} (h : DataW.Trod enc Try.prog W base spare held 29 (.slice a len cap) d ps) :
    ∃ zs : List (Int × Int × Int × Int), len = zs.length ∧ (Reads4 W .i64 .i64 .i64 .i64 a zs ∧ ∀ z ∈ zs, (Lit.int .i64 z.1).wf = true ∧ (Lit.int .i64 z.2.1).wf = true ∧ (Lit.int .i64 z.2.2.1).wf = true ∧ (Lit.int .i64 z.2.2.2).wf = true) :=
  open_reads4 Try.underlying29 Try.underlying37 (by kernel_rfl) rfl rfl rfl rfl (by kernel_rfl) (by kernel_rfl) (by kernel_rfl) (by kernel_rfl) Try.underlying3 Try.underlying3 Try.underlying3 Try.underlying3 h
end
def PlI (w0 : World) (g c k : Nat) (wr : World) : Prop := ∃ mp X L v n, Sim w0 wr g c mp X L v n ∧ 0 ≤ n ∧ n ≤ k ∧ L.length ≤ k
theorem start_new {w0 w2 : World} {g : Nat} (h : ChW 95 54 w2 g none [] 0) (hg : w0.heap.size ≤ g) (hC : Chg (fun _ => False) w0 w2) : PlI w0 g w2.heap.size 0 (w2.alloc (.cells #[.slice none 0 0, .int .i64 0] 35)) := by
  have hlt := h.lt (.inl rfl)
  have hC2 : Chg (fun _ => False) w2 (w2.alloc (.cells #[.slice none 0 0, .int .i64 0] 35)) := (Chg.refl _ w2).alloc _
  refine ⟨none, [], [], .slice none 0 0, 0, ⟨h.keep hC2 (fun _ _ => id), rfl, ⟨heap_alloc_at _ _, OwnF.nil _ _ _ _, by intro e; cases e⟩, ?_, fun k hk => (by cases hk), ?_, hC.size, fun k hk => (by cases hk), ?_⟩, by omega, by omega, by simp⟩
  · rintro (e | e | ⟨x, hx, _⟩)
    · omega
    · cases e
    · cases hx
  · rintro k (e | e | ⟨x, hx, _⟩)
    · omega
    · cases e
    · cases hx
  · exact Below.of_chg (hC.trans hC2 (fun _ _ => id)) (Nat.le_refl _) (fun _ _ => id)
theorem start_zero {w0 w2 : World} (hC : Chg (fun _ => False) w0 w2) : PlI w0 (w2.heap.size + 1) w2.heap.size 0 ((w2.alloc (.cells #[.slice none 0 0, .int .i64 0] 35)).alloc (.cells #[.pointer none, .pointer none, .map none, .int .i64 0] 54)) := by
  have hC2 : Chg (fun _ => False) w2 ((w2.alloc (.cells #[.slice none 0 0, .int .i64 0] 35)).alloc (.cells #[.pointer none, .pointer none, .map none, .int .i64 0] 54)) := ((Chg.refl _ w2).alloc _).alloc _
  have hs : (w2.alloc (.cells #[.slice none 0 0, .int .i64 0] 35)).heap.size = w2.heap.size + 1 := by simp
  refine ⟨none, [], [], .slice none 0 0, 0, ⟨⟨⟨by rw [← hs]; exact heap_alloc_at _ _, trivial, by simp, by simp⟩, rfl, by simp, by simp, by simp, by simp⟩, rfl, ⟨heap_alloc_ne (heap_alloc_at _ _), OwnF.nil _ _ _ _, by intro e; cases e⟩, ?_, fun k hk => (by cases hk), ?_, hC.size, fun k hk => (by cases hk), ?_⟩, by omega, by omega, by simp⟩
  · rintro (e | e | ⟨x, hx, _⟩)
    · omega
    · cases e
    · cases hx
  · rintro k (e | e | ⟨x, hx, _⟩)
    · have := hC.size; omega
    · cases e
    · cases hx
  · exact Below.of_chg (hC.trans hC2 (fun _ _ => id)) (Nat.le_refl _) (fun _ _ => id)
set_option maxRecDepth 20000 in
set_option maxHeartbeats 4000000 in
theorem chainPlays_walk (A : Option Addr) (cap : Nat) (l : List (Int × Int × Int × Int)) (zero : Bool) (w : World) (hr : Reads4 w .i64 .i64 .i64 .i64 A l ∧ ∀ z ∈ l, (Lit.int .i64 z.1).wf = true ∧ (Lit.int .i64 z.2.1).wf = true ∧ (Lit.int .i64 z.2.2.1).wf = true ∧ (Lit.int .i64 z.2.2.2).wf = true) :
    Calls Try.prog 5 #[.slice A l.length cap, .bool zero] w fun e w' => e = .returned (.bool true) ∧ Below w.heap.size w w' := by
  obtain ⟨hr, _⟩ := hr
  obtain ⟨m, hm⟩ : ∃ m, m = l.length := ⟨_, rfl⟩
  rw [← hm]
  by_cases hl : l.length ≤ 200
  · have hm200 : ¬ (200 : Int) < m := by omega
    have HH := Lib.hid (⟨hr, hl, hm⟩ : _ ∧ _ ∧ _)
    clear hr hl hm
    cases zero
    · go_enter Try.func5, Try.ntmps5
      go_wp2_with fail
      refine (awake_any _).mono ?_
      rintro e w1 ⟨rfl, hC1⟩
      have HC1 := Lib.hid hC1
      clear hC1
      go_wp2_with fail
      refine (new_any _).mono ?_
      rintro e w2 ⟨g, rfl, hg, hch, hC2⟩
      have HST := Lib.hid (start_new (w0 := w) hch (Nat.le_trans HC1.out.size hg) (HC1.out.trans hC2 (fun _ _ => id)))
      obtain ⟨c, hc⟩ : ∃ c, c = w2.heap.size := ⟨_, rfl⟩
      rw [← hc] at HST
      have HCC := Lib.hid hc
      clear hg hch hC2 hc
      go_wp2_with fail
      rw [← HCC.out]
      go_wp2
      go_loopw [24] (fun i wr => ∃ k : Nat, i = .int .i64 k ∧ k ≤ l.length ∧ PlI w g c k wr) (fun i _ => l.length - (intOf i).toNat)
      case atStart => exact ⟨0, rfl, Nat.zero_le _, HST.out⟩
      case round =>
        obtain ⟨k, rfl, hk, hI⟩ := hrel
        obtain ⟨hr, hl200, hm⟩ := HH.out
        obtain ⟨mp, X, L, v, nn, hS, h0, h1, hLl⟩ := hI
        by_cases hkl : k < l.length
        · obtain ⟨bb, off, rfl, hblt, hcell⟩ := hr (by rintro rfl; simp at hkl)
          obtain ⟨p0, p1, p2, p3⟩ := hcell k hkl
          obtain ⟨z, hz⟩ : ∃ z, z = l.getD k d4 := ⟨_, rfl⟩
          rw [← hz] at p0 p1 p2 p3
          have s0 := (hS.bl.cell (p := ⟨bb, off + k * 4, none⟩) hblt).trans p0
          have s1 := (hS.bl.cell (p := ⟨bb, off + k * 4 + 1, none⟩) hblt).trans p1
          have s2 := (hS.bl.cell (p := ⟨bb, off + k * 4 + 2, none⟩) hblt).trans p2
          have s3 := (hS.bl.cell (p := ⟨bb, off + k * 4 + 3, none⟩) hblt).trans p3
          have hdo := do_any z.1 z.2.1 z.2.2.1 z.2.2.2 hS h0 (by omega) (by omega)
          have hkm : (k : Int) < m := by omega
          have HW := Lib.hid (show wrap64 ((k : Int) + 1) = ((k + 1 : Nat) : Int) by unfold wrap64; omega)
          have HB := Lib.hid (⟨hkl, h0, h1, hLl, hl200⟩ : _ ∧ _ ∧ _ ∧ _ ∧ _)
          clear hr hl200 hm hS h0 h1 hLl hcell p0 p1 p2 p3 hz hkl hk hblt
          go_wp2_with fail
          refine hdo.mono ?_
          rintro e w3 ⟨rfl, mp', X', L', v', n', hS', h2, h3, h4⟩
          have hsa := same_any hS' (by have := HB.out; omega)
          have HS' := Lib.hid hS'
          have HN := Lib.hid (⟨h2, h3, h4⟩ : _ ∧ _ ∧ _)
          clear hS' h2 h3 h4 hdo s0 s1 s2 s3
          go_wp2_with fail
          refine hsa.mono ?_
          rintro e w4 ⟨rfl, hC4⟩
          have HP := Lib.hid (show PlI w g c (k + 1) w4 from ⟨mp', X', L', v', n', HS'.out.keep hC4, by have := HN.out; have := HB.out; omega, by have := HN.out; have := HB.out; omega, by have := HN.out; have := HB.out; omega⟩)
          clear hC4 hsa
          go_wp2
          go_roundw
          case rel => exact ⟨k + 1, rfl, HB.out.1, HP.out⟩
          case measure =>
            have h1 := HB.out.1
            simp only [intOf]
            omega
        · have hkm : ¬ (k : Int) < m := by omega
          have HQ := Lib.hid hS.bl
          clear hr hl200 hm hS h0 h1 hLl hkl hk
          go_wp2
          go_ret
          exact ⟨rfl, HQ.out⟩

    · go_enter Try.func5, Try.ntmps5
      go_wp2_with fail
      refine (awake_any _).mono ?_
      rintro e w1 ⟨rfl, hC1⟩
      have HC1 := Lib.hid hC1
      clear hC1
      go_wp2_with fail
      refine (new_any _).mono ?_
      rintro e w2 ⟨g, rfl, hg, hch, hC2⟩
      have HST := Lib.hid (start_zero (w0 := w) (HC1.out.trans hC2 (fun _ _ => id)))
      obtain ⟨c, hc⟩ : ∃ c, c = w2.heap.size := ⟨_, rfl⟩
      rw [← hc] at HST
      have HCC := Lib.hid hc
      clear hg hch hC2 hc
      go_wp2_with fail
      rw [← HCC.out]
      go_wp2
      go_loopw [24] (fun i wr => ∃ k : Nat, i = .int .i64 k ∧ k ≤ l.length ∧ PlI w (c + 1) c k wr) (fun i _ => l.length - (intOf i).toNat)
      case atStart => exact ⟨0, rfl, Nat.zero_le _, HST.out⟩
      case round =>
        obtain ⟨k, rfl, hk, hI⟩ := hrel
        obtain ⟨hr, hl200, hm⟩ := HH.out
        obtain ⟨mp, X, L, v, nn, hS, h0, h1, hLl⟩ := hI
        by_cases hkl : k < l.length
        · obtain ⟨bb, off, rfl, hblt, hcell⟩ := hr (by rintro rfl; simp at hkl)
          obtain ⟨p0, p1, p2, p3⟩ := hcell k hkl
          obtain ⟨z, hz⟩ : ∃ z, z = l.getD k d4 := ⟨_, rfl⟩
          rw [← hz] at p0 p1 p2 p3
          have s0 := (hS.bl.cell (p := ⟨bb, off + k * 4, none⟩) hblt).trans p0
          have s1 := (hS.bl.cell (p := ⟨bb, off + k * 4 + 1, none⟩) hblt).trans p1
          have s2 := (hS.bl.cell (p := ⟨bb, off + k * 4 + 2, none⟩) hblt).trans p2
          have s3 := (hS.bl.cell (p := ⟨bb, off + k * 4 + 3, none⟩) hblt).trans p3
          have hdo := do_any z.1 z.2.1 z.2.2.1 z.2.2.2 hS h0 (by omega) (by omega)
          have hkm : (k : Int) < m := by omega
          have HW := Lib.hid (show wrap64 ((k : Int) + 1) = ((k + 1 : Nat) : Int) by unfold wrap64; omega)
          have HB := Lib.hid (⟨hkl, h0, h1, hLl, hl200⟩ : _ ∧ _ ∧ _ ∧ _ ∧ _)
          clear hr hl200 hm hS h0 h1 hLl hcell p0 p1 p2 p3 hz hkl hk hblt
          go_wp2_with fail
          refine hdo.mono ?_
          rintro e w3 ⟨rfl, mp', X', L', v', n', hS', h2, h3, h4⟩
          have hsa := same_any hS' (by have := HB.out; omega)
          have HS' := Lib.hid hS'
          have HN := Lib.hid (⟨h2, h3, h4⟩ : _ ∧ _ ∧ _)
          clear hS' h2 h3 h4 hdo s0 s1 s2 s3
          go_wp2_with fail
          refine hsa.mono ?_
          rintro e w4 ⟨rfl, hC4⟩
          have HP := Lib.hid (show PlI w (c + 1) c (k + 1) w4 from ⟨mp', X', L', v', n', HS'.out.keep hC4, by have := HN.out; have := HB.out; omega, by have := HN.out; have := HB.out; omega, by have := HN.out; have := HB.out; omega⟩)
          clear hC4 hsa
          go_wp2
          go_roundw
          case rel => exact ⟨k + 1, rfl, HB.out.1, HP.out⟩
          case measure =>
            have h1 := HB.out.1
            simp only [intOf]
            omega
        · have hkm : ¬ (k : Int) < m := by omega
          have HQ := Lib.hid hS.bl
          clear hr hl200 hm hS h0 h1 hLl hkl hk
          go_wp2
          go_ret
          exact ⟨rfl, HQ.out⟩

  · have hm200 : (200 : Int) < m := by omega
    clear hr hl hm
    go_enter Try.func5, Try.ntmps5
    go_wp2_with fail
    refine (awake_any _).mono ?_
    rintro e w1 ⟨rfl, hC1⟩
    have HC1 := Lib.hid hC1
    clear hC1
    go_wp2_with fail
    refine (awake_any _).mono ?_
    rintro e w2 ⟨rfl, hC2⟩
    have HC2 := Lib.hid (HC1.out.trans hC2 (fun _ _ => id))
    clear hC2
    go_wp2
    go_ret
    exact ⟨rfl, HC2.out.below (fun k hk => ⟨hk, id⟩)⟩
end Go.Proofs.Ythoagpagnldmeaa
