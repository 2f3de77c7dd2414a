/- Solutions: the reader's number and id. -/
import Derived.Test.YtcdbchdlenkdgaaSa
import Derived.Test.YtcdbchdlenkdgaaCn
set_option linter.unusedVariables false
set_option linter.unusedSimpArgs false
namespace Go.Proofs.Ytcdbchdlenkdgaa
open Go.RowKit Go.Ps

/-- A reader in memory: block g; what it reads lies below block b0. -/
def RdS (w : World) (g b0 : Nat) (s : List Int × Bool) : Prop := ∃ A c, w.heap[g]? = some (.cells #[.slice A s.1.length c, .bool s.2] 78 (0, 0)) ∧ ReadsI w .u8 A s.1 ∧ s.1.length ≤ c ∧ (b0 ≤ g ∧ (s.1 ≠ [] → ∀ a, A = some a → a.block < b0)) ∧ Bytes s.1 ∧ s.1.length ≤ 20000000000
def RnSPost (g b0 : Nat) (v : Value) (s : List Int × Bool) (w : World) (e : Ending) (w' : World) : Prop := e = .returned v ∧ RdS w' g b0 s ∧ Chg (fun k => k = g) w w'
theorem RdS.chg {w w' : World} {g b0 : Nat} {s : List Int × Bool} (h : RdS w g b0 s) (hc : Chg (fun _ => False) w w') : RdS w' g b0 s := by
  obtain ⟨A, c, h1, h2, h3, h4, h5, h6⟩ := h
  exact ⟨A, c, chg_heap hc h1, h2.chg hc (fun _ _ => id), h3, h4, h5, h6⟩
theorem RdS.set {w : World} {g b0 : Nat} {A : Option Addr} {n c : Nat} {s : List Int × Bool} {b : Bool} {v : Value} {i : Nat} {B : Option Addr} {d : Nat} (h : w.heap[g]? = some (.cells #[.slice A n c, .bool b] 78 (0, 0))) (hs : (#[Value.slice A n c, .bool b]).setIfInBounds i v = #[.slice B s.1.length d, .bool s.2]) (hr : ReadsI w .u8 B s.1) (hd : s.1.length ≤ d) (hB : b0 ≤ g ∧ (s.1 ≠ [] → ∀ a, B = some a → a.block < b0)) (hb : Bytes s.1) (hl : s.1.length ≤ 20000000000) :
    RdS (w.setCell ⟨g, i, none⟩ v) g b0 s ∧ Chg (fun k => k = g) w (w.setCell ⟨g, i, none⟩ v) := by
  have hC : Chg (fun k => k = g) w (w.setCell ⟨g, i, none⟩ v) := (Chg.refl (fun k => k = g) w).setCell (p := ⟨g, i, none⟩) (fun _ => rfl) v
  have hr' : ReadsI (w.setCell ⟨g, i, none⟩ v) .u8 B s.1 := by
    by_cases hne : s.1 = []
    · exact fun h => absurd hne h
    · exact hr.chg hC (fun a ha e => by have h1 := hB.1; have h2 := hB.2 hne a ha; omega)
  refine ⟨⟨B, d, ?_, hr', hd, hB, hb, hl⟩, hC⟩
  rw [heap_setCell h, hs]
set_option maxHeartbeats 2000000 in
theorem number49_any (w : World) (g b0 : Nat) (s : List Int × Bool) (most : Int) (h : RdS w g b0 s) (hm : 0 ≤ most ∧ most ≤ 18446744073709551615) : Calls Try.prog 49 #[.pointer (some ⟨g, 0, none⟩), .int .u64 most] w (RnSPost g b0 (.int .u64 (rnum s most).1) (rnum s most).2 w) := by
  obtain ⟨l, b⟩ := s
  obtain ⟨A, c, h1, h2, h3, h4, h5, h6⟩ := h
  simp only at h1 h2 h3 h4 h5 h6
  have c0 : w.cell? ⟨g, 0, none⟩ = some (.slice A l.length c) := cell_of h1 0 rfl
  have c1 : w.cell? ⟨g, 1, none⟩ = some (.bool b) := cell_of h1 1 rfl
  have f0 := frozen_of h1 0
  have f1 := frozen_of h1 1
  have h17 := take_any w A c l h2 h5 (by omega) h3
  have hf := tk_facts h5
  unfold TkPost at h17
  have hrn : rnum (l, b) most = if b = false ∧ (tk l).2.2 = 0 ∧ (tk l).1 ≤ most then ((tk l).1, (l.drop (tk l).2.1.toNat, false)) else (0, (l, true)) := rfl
  obtain ⟨t, ht⟩ : ∃ t, t = tk l := ⟨_, rfl⟩
  rw [← ht] at h17 hf hrn
  obtain ⟨n, k, e⟩ := t
  simp only at h17 hf hrn
  have bad : ∀ W, Chg (fun _ => False) w W → RnSPost g b0 (.int .u64 0) (l, true) w (.returned (.int .u64 0)) (W.setCell ⟨g, 1, none⟩ (.bool true)) := fun W hC => by
    obtain ⟨g1, g2⟩ := RdS.set (s := (l, true)) (B := A) (d := c) (chg_heap hC h1) (i := 1) (v := .bool true) rfl (h2.chg hC (fun _ _ => id)) h3 h4 h5 h6
    exact ⟨rfl, g1, hC.weak.trans g2 (fun _ _ h => h)⟩
  have BAD := Lib.hid bad
  by_cases hok : b = false ∧ e = 0 ∧ n ≤ most
  · rw [if_pos hok] at hrn
    obtain ⟨rfl, rfl, hnm⟩ := hok
    have hf' : U64' n ∧ 1 ≤ k ∧ k ≤ l.length := by
      rcases hf with h | h
      · exact ⟨h.2.1, h.2.2.1, h.2.2.2.2.1⟩
      · omega
    obtain ⟨⟨u1, u2⟩, hk1, hk2⟩ := hf'
    obtain ⟨K, rfl⟩ : ∃ K : Nat, k = (K : Int) := ⟨k.toNat, by omega⟩
    rw [Int.toNat_natCast] at hrn
    rw [hrn]
    have hsl := fun W => run_cutL (P := Try.prog) (ki := .i64) Try.underlying22 size5 A l.length c K (by omega) h3 W
    have hcut := fun W (hC : Chg (fun _ => False) w W) => cutA_sub (c := c) (h2.chg hC (fun _ _ => id)) K l.length (Nat.le_refl _) h3
    have good : ∀ W, Chg (fun _ => False) w W → RnSPost g b0 (.int .u64 n) (l.drop K, false) w (.returned (.int .u64 n)) (W.setCell ⟨g, 0, none⟩ (.slice (cutA A K c) (l.length - K) (c - K))) := fun W hC => by
      have hr := hcut W hC
      rw [List.take_length] at hr
      obtain ⟨g1, g2⟩ := RdS.set (s := (l.drop K, false)) (B := cutA A K c) (d := c - K) (chg_heap hC h1) (i := 0) (v := .slice (cutA A K c) (l.length - K) (c - K)) (by simp) hr (by simp only [List.length_drop]; omega) ⟨h4.1, fun hne a ha => by obtain ⟨b, hb, hbb⟩ := cutA_block ha; rw [hbb]; exact h4.2 (by rintro rfl; simp at hne) b hb⟩ (h5.drop K) (by simp only [List.length_drop]; omega)
      exact ⟨rfl, g1, hC.weak.trans g2 (fun _ _ h => h)⟩
    have GOOD := Lib.hid good
    have hn0 : (most < n) = False := by simp; omega
    clear hrn hf ht bad BAD h2 h4 h5 hcut good h1 hn0
    go_enter Try.func49, Try.ntmps49
    go_wp2_with fail
    refine h17.mono ?_
    rintro e1 w1 ⟨rfl, n1, rfl⟩
    clear h17
    simp only []
    go_wp2_with (with_reducible refine wpList_slice_run rfl 22 _ _ none rfl _ _ _ none rfl rfl rfl (hsl _) ?_)
    go_ret
    exact GOOD.out _ (chg_drewN _ _)
  · rw [if_neg hok] at hrn
    rw [hrn]
    clear hrn ht bad h2 h4 h5 h1
    have fin := fun n1 => BAD.out _ (chg_drewN w n1)
    have FIN := Lib.hid fin
    clear fin BAD
    cases b with
    | true =>
      clear hok hf
      go_enter Try.func49, Try.ntmps49
      go_wp2_with fail
      refine h17.mono ?_
      rintro e1 w1 ⟨rfl, n1, rfl⟩
      clear h17
      simp only []
      go_wp2
      all_goals
        go_ret
        exact FIN.out _
    | false =>
      by_cases he : e = 0
      · subst he
        have hnm : most < n := by simp at hok; omega
        have hu : U64' n := by
          rcases hf with h | h
          · exact h.2.1
          · omega
        obtain ⟨u1, u2⟩ := hu
        clear hok hf
        go_enter Try.func49, Try.ntmps49
        go_wp2_with fail
        refine h17.mono ?_
        rintro e1 w1 ⟨rfl, n1, rfl⟩
        clear h17
        simp only []
        go_wp2
        go_ret
        exact FIN.out _
      · have heb : (e != 0) = true := by simpa using he
        clear hok hf he
        go_enter Try.func49, Try.ntmps49
        go_wp2_with fail
        refine h17.mono ?_
        rintro e1 w1 ⟨rfl, n1, rfl⟩
        clear h17
        simp only []
        go_wp2
        go_ret
        exact FIN.out _

theorem i64wrap {n : Int} (h : -9223372036854775808 ≤ n ∧ n ≤ 9223372036854775807) : IntKind.i64.wrap n = n := by simp [IntKind.wrap, IntKind.bits, IntKind.signed]; omega
theorem id50_any (w : World) (g b0 : Nat) (s : List Int × Bool) (h : RdS w g b0 s) : Calls Try.prog 50 #[.pointer (some ⟨g, 0, none⟩)] w (RnSPost g b0 (.int .i64 (rnum s most31).1) (rnum s most31).2 w) := by
  have hr := rnum_range (s := s) (by obtain ⟨A, c, h1, h2, h3, h4, h5, h6⟩ := h; exact h5) (m := 2147483647) (by omega)
  have h49 := number49_any w g b0 s 2147483647 h (by omega)
  unfold most31
  obtain ⟨⟨n, s'⟩, hn⟩ : ∃ r, r = rnum s 2147483647 := ⟨_, rfl⟩
  rw [← hn] at hr h49 ⊢
  obtain ⟨h0, h1, _⟩ := hr
  simp only at h0 h1 h49 ⊢
  have hw := i64wrap (n := n) (by omega)
  clear hn h
  go_enter Try.func50, Try.ntmps50
  go_wp2_with fail
  refine h49.mono ?_
  rintro e1 w1 ⟨rfl, hR, hC⟩
  have HR := Lib.hid hR
  have HC := Lib.hid hC
  clear hR hC h49
  go_wp2
  go_ret
  exact ⟨rfl, HR.out, HC.out⟩
end Go.Proofs.Ytcdbchdlenkdgaa
