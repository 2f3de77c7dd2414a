/- Calls: the reader's number and bytes. -/
import Derived.Test.YtcdbchdlenkdgaaCe
import Derived.Test.YtcdbchdlenkdgaaTl
set_option linter.unusedVariables false
set_option linter.unusedSimpArgs false
namespace Go.Proofs.Ytcdbchdlenkdgaa
open Go.RowKit Go.Ps

/-- A reader in memory: block g; what it reads lies below block b0. -/
def Rd (w : World) (g b0 : Nat) (s : List Int × Bool) : Prop := ∃ A c, w.heap[g]? = some (.cells #[.slice A s.1.length c, .bool s.2] 90 (0, 0)) ∧ ReadsI w .u8 A s.1 ∧ s.1.length ≤ c ∧ (b0 ≤ g ∧ (s.1 ≠ [] → ∀ a, A = some a → a.block < b0)) ∧ Bytes s.1 ∧ s.1.length ≤ 20000000000
def RnPost (g b0 : Nat) (v : Value) (s : List Int × Bool) (w : World) (e : Ending) (w' : World) : Prop := e = .returned v ∧ Rd w' g b0 s ∧ Chg (fun k => k = g) w w'
theorem Rd.chg {w w' : World} {g b0 : Nat} {s : List Int × Bool} (h : Rd w g b0 s) (hc : Chg (fun _ => False) w w') : Rd w' g b0 s := by
  obtain ⟨A, c, h1, h2, h3, h4, h5, h6⟩ := h
  exact ⟨A, c, chg_heap hc h1, h2.chg hc (fun _ _ => id), h3, h4, h5, h6⟩
theorem Rd.set {w : World} {g b0 : Nat} {A : Option Addr} {n c : Nat} {s : List Int × Bool} {b : Bool} {v : Value} {i : Nat} {B : Option Addr} {d : Nat} (h : w.heap[g]? = some (.cells #[.slice A n c, .bool b] 90 (0, 0))) (hs : (#[Value.slice A n c, .bool b]).setIfInBounds i v = #[.slice B s.1.length d, .bool s.2]) (hr : ReadsI w .u8 B s.1) (hd : s.1.length ≤ d) (hB : b0 ≤ g ∧ (s.1 ≠ [] → ∀ a, B = some a → a.block < b0)) (hb : Bytes s.1) (hl : s.1.length ≤ 20000000000) :
    Rd (w.setCell ⟨g, i, none⟩ v) g b0 s ∧ Chg (fun k => k = g) w (w.setCell ⟨g, i, none⟩ v) := by
  have hC : Chg (fun k => k = g) w (w.setCell ⟨g, i, none⟩ v) := (Chg.refl (fun k => k = g) w).setCell (p := ⟨g, i, none⟩) (fun _ => rfl) v
  have hr' : ReadsI (w.setCell ⟨g, i, none⟩ v) .u8 B s.1 := by
    by_cases hne : s.1 = []
    · exact fun h => absurd hne h
    · exact hr.chg hC (fun a ha e => by have h1 := hB.1; have h2 := hB.2 hne a ha; omega)
  refine ⟨⟨B, d, ?_, hr', hd, hB, hb, hl⟩, hC⟩
  rw [heap_setCell h, hs]
theorem _root_.Go.Ps.Chg.weak {F : Nat → Prop} {w w' : World} (h : Chg (fun _ => False) w w') : Chg F w w' := h.mono (fun _ _ h => absurd h id)
theorem u64_most {m : Int} (h : 0 ≤ m ∧ m ≤ 18446744073709551615) : U64' m := ⟨h.1, by omega⟩
set_option maxHeartbeats 2000000 in
theorem number56_any (w : World) (g b0 : Nat) (s : List Int × Bool) (most : Int) (h : Rd w g b0 s) (hm : 0 ≤ most ∧ most ≤ 18446744073709551615) : Calls Try.prog 56 #[.pointer (some ⟨g, 0, none⟩), .int .u64 most] w (RnPost g b0 (.int .u64 (rnum s most).1) (rnum s most).2 w) := by
  obtain ⟨l, b⟩ := s
  obtain ⟨A, c, h1, h2, h3, h4, h5, h6⟩ := h
  simp only at h1 h2 h3 h4 h5 h6
  have c0 : w.cell? ⟨g, 0, none⟩ = some (.slice A l.length c) := cell_of h1 0 rfl
  have c1 : w.cell? ⟨g, 1, none⟩ = some (.bool b) := cell_of h1 1 rfl
  have f0 := frozen_of h1 0
  have f1 := frozen_of h1 1
  have h17 := take_any w A c l h2 h5 (by omega) h3
  have hf := tk_facts h5
  unfold TkPost at h17
  have hrn : rnum (l, b) most = if b = false ∧ (tk l).2.2 = 0 ∧ (tk l).1 ≤ most then ((tk l).1, (l.drop (tk l).2.1.toNat, false)) else (0, (l, true)) := rfl
  obtain ⟨t, ht⟩ : ∃ t, t = tk l := ⟨_, rfl⟩
  rw [← ht] at h17 hf hrn
  obtain ⟨n, k, e⟩ := t
  simp only at h17 hf hrn
  have bad : ∀ W, Chg (fun _ => False) w W → RnPost g b0 (.int .u64 0) (l, true) w (.returned (.int .u64 0)) (W.setCell ⟨g, 1, none⟩ (.bool true)) := fun W hC => by
    obtain ⟨g1, g2⟩ := Rd.set (s := (l, true)) (B := A) (d := c) (chg_heap hC h1) (i := 1) (v := .bool true) rfl (h2.chg hC (fun _ _ => id)) h3 h4 h5 h6
    exact ⟨rfl, g1, hC.weak.trans g2 (fun _ _ h => h)⟩
  have BAD := Lib.hid bad
  by_cases hok : b = false ∧ e = 0 ∧ n ≤ most
  · rw [if_pos hok] at hrn
    obtain ⟨rfl, rfl, hnm⟩ := hok
    have hf' : U64' n ∧ 1 ≤ k ∧ k ≤ l.length := by
      rcases hf with h | h
      · exact ⟨h.2.1, h.2.2.1, h.2.2.2.2.1⟩
      · omega
    obtain ⟨⟨u1, u2⟩, hk1, hk2⟩ := hf'
    obtain ⟨K, rfl⟩ : ∃ K : Nat, k = (K : Int) := ⟨k.toNat, by omega⟩
    rw [Int.toNat_natCast] at hrn
    rw [hrn]
    have hsl := fun W => run_cutL (P := Try.prog) (ki := .i64) Try.underlying22 size5 A l.length c K (by omega) h3 W
    have hcut := fun W (hC : Chg (fun _ => False) w W) => cutA_sub (c := c) (h2.chg hC (fun _ _ => id)) K l.length (Nat.le_refl _) h3
    have good : ∀ W, Chg (fun _ => False) w W → RnPost g b0 (.int .u64 n) (l.drop K, false) w (.returned (.int .u64 n)) (W.setCell ⟨g, 0, none⟩ (.slice (cutA A K c) (l.length - K) (c - K))) := fun W hC => by
      have hr := hcut W hC
      rw [List.take_length] at hr
      obtain ⟨g1, g2⟩ := Rd.set (s := (l.drop K, false)) (B := cutA A K c) (d := c - K) (chg_heap hC h1) (i := 0) (v := .slice (cutA A K c) (l.length - K) (c - K)) (by simp) hr (by simp only [List.length_drop]; omega) ⟨h4.1, fun hne a ha => by obtain ⟨b, hb, hbb⟩ := cutA_block ha; rw [hbb]; exact h4.2 (by rintro rfl; simp at hne) b hb⟩ (h5.drop K) (by simp only [List.length_drop]; omega)
      exact ⟨rfl, g1, hC.weak.trans g2 (fun _ _ h => h)⟩
    have GOOD := Lib.hid good
    have hn0 : (most < n) = False := by simp; omega
    clear hrn hf ht bad BAD h2 h4 h5 hcut good h1 hn0
    go_enter Try.func56, Try.ntmps56
    go_wp2_with fail
    refine h17.mono ?_
    rintro e1 w1 ⟨rfl, n1, rfl⟩
    clear h17
    simp only []
    go_wp2_with (with_reducible refine wpList_slice_run rfl 22 _ _ none rfl _ _ _ none rfl rfl rfl (hsl _) ?_)
    go_ret
    exact GOOD.out _ (chg_drewN _ _)
  · rw [if_neg hok] at hrn
    rw [hrn]
    clear hrn ht bad h2 h4 h5 h1
    have fin := fun n1 => BAD.out _ (chg_drewN w n1)
    have FIN := Lib.hid fin
    clear fin BAD
    cases b with
    | true =>
      clear hok hf
      go_enter Try.func56, Try.ntmps56
      go_wp2_with fail
      refine h17.mono ?_
      rintro e1 w1 ⟨rfl, n1, rfl⟩
      clear h17
      simp only []
      go_wp2
      go_ret
      exact FIN.out _
    | false =>
      by_cases he : e = 0
      · subst he
        have hnm : most < n := by simp at hok; omega
        have hu : U64' n := by
          rcases hf with h | h
          · exact h.2.1
          · omega
        obtain ⟨u1, u2⟩ := hu
        clear hok hf
        go_enter Try.func56, Try.ntmps56
        go_wp2_with fail
        refine h17.mono ?_
        rintro e1 w1 ⟨rfl, n1, rfl⟩
        clear h17
        simp only []
        go_wp2
        go_ret
        exact FIN.out _
      · have heb : (e != 0) = true := by simpa using he
        clear hok hf he
        go_enter Try.func56, Try.ntmps56
        go_wp2_with fail
        refine h17.mono ?_
        rintro e1 w1 ⟨rfl, n1, rfl⟩
        clear h17
        simp only []
        go_wp2
        go_ret
        exact FIN.out _

theorem rnum_range {s : List Int × Bool} (hb : Bytes s.1) {m : Int} (hm : 0 ≤ m) : 0 ≤ (rnum s m).1 ∧ (rnum s m).1 ≤ m ∧ Bytes (rnum s m).2.1 := by
  unfold rnum
  split
  · rename_i h
    rcases tk_facts hb with hf | hf
    · exact ⟨hf.2.1.1, h.2.2, hb.drop _⟩
    · omega
  · exact ⟨Int.le_refl _, hm, hb⟩
/-- A row of its own, beside a reader. -/
def RowX (g b0 : Nat) (v : Value) (l : List Int) (s : List Int × Bool) (w w' : World) : Prop := Own w' 5 .u8 v l ∧ Rd w' g b0 s ∧ Chg (fun k => k = g) w w' ∧ ∀ k, v.ownBlock = some k → w.heap.size ≤ k
def RbPost (g b0 : Nat) (s : List Int × Bool) (w : World) (e : Ending) (w' : World) : Prop := ∃ v, e = .returned v ∧ RowX g b0 v (rbytes s).1 (rbytes s).2 w w'
theorem Rd.lt {w : World} {g b0 : Nat} {s : List Int × Bool} (h : Rd w g b0 s) : g < w.heap.size := by
  obtain ⟨A, c, h1, _⟩ := h
  exact heap_lt h1
set_option maxHeartbeats 2000000 in
theorem bytes57_any (w : World) (g b0 : Nat) (s : List Int × Bool) (h : Rd w g b0 s) : Calls Try.prog 57 #[.pointer (some ⟨g, 0, none⟩)] w (RbPost g b0 s w) := by
  have hgl := h.lt
  have h56 := number56_any w g b0 s 20000 h (by omega)
  have hb : Bytes s.1 := by obtain ⟨A, c, _, _, _, _, h5, _⟩ := h; exact h5
  obtain ⟨hr1, hr2, hr3⟩ := rnum_range hb (m := 20000) (by omega)
  have hrb : rbytes s = if ((rnum s 20000).2.1.length : Int) < (rnum s 20000).1 then ([], ((rnum s 20000).2.1, true)) else ((rnum s 20000).2.1.take (rnum s 20000).1.toNat, ((rnum s 20000).2.1.drop (rnum s 20000).1.toNat, (rnum s 20000).2.2)) := rfl
  obtain ⟨r, hr⟩ : ∃ r, r = rnum s 20000 := ⟨_, rfl⟩
  rw [← hr] at h56 hr1 hr2 hr3 hrb
  obtain ⟨n, l, b⟩ := r
  simp only at h56 hr1 hr2 hr3 hrb
  obtain ⟨N, rfl⟩ : ∃ N : Nat, n = (N : Int) := ⟨n.toNat, by omega⟩
  rw [Int.toNat_natCast] at hrb
  have HRB := Lib.hid hrb
  clear h hb hr hrb
  go_enter Try.func57, Try.ntmps57
  go_wp2_with fail
  refine h56.mono ?_
  rintro e1 w1 ⟨rfl, hR, hC⟩
  obtain ⟨A, c, g1, g2, g3, g4, g5, g6⟩ := hR
  simp only at g1 g2 g3 g4 g5 g6
  have c0 : w1.cell? ⟨g, 0, none⟩ = some (.slice A l.length c) := cell_of g1 0 rfl
  have c1 : w1.cell? ⟨g, 1, none⟩ = some (.bool b) := cell_of g1 1 rfl
  have f0 := frozen_of g1 0
  have f1 := frozen_of g1 1
  have HC := Lib.hid hC
  have HG1 := Lib.hid g1
  have HG2 := Lib.hid g2
  have HG4 := Lib.hid g4
  have HG5 := Lib.hid g5
  clear h56 hC g1 g2 g4 g5
  by_cases hl : (l.length : Int) < N
  · have fin : RbPost g b0 s w (.returned (.slice none 0 0)) (w1.setCell ⟨g, 1, none⟩ (.bool true)) := by
      obtain ⟨q1, q2⟩ := Rd.set (s := (l, true)) (B := A) (d := c) HG1.out (i := 1) (v := .bool true) rfl HG2.out g3 HG4.out HG5.out g6
      have e := HRB.out
      rw [if_pos hl] at e
      refine ⟨_, rfl, ?_⟩
      rw [e]
      exact ⟨Own.nil _ _ _, q1, HC.out.trans q2 (fun _ _ h => h), fun k hk => by cases hk⟩
    have FIN := Lib.hid fin
    clear fin
    go_wp2
    go_ret
    exact FIN.out
  · have hN : N ≤ l.length := by omega
    have hN2 : (N : Int) ≤ l.length := by omega
    have hsl1 := fun W => run_cutH (P := Try.prog) (kj := .u64) Try.underlying22 size5 A l.length c N (by omega) W
    have hsl2 := fun W => run_cutL (P := Try.prog) (ki := .u64) Try.underlying22 size5 A l.length c N hN g3 W
    have hcut1 := cutA_sub (c := c) HG2.out 0 N hN g3
    rw [List.drop_zero] at hcut1
    have hcl := clone_any w1 (cutA A 0 c) c (l.take N) hcut1 (by rw [List.length_take]; omega)
    rw [show (l.take N).length = N by rw [List.length_take]; omega] at hcl
    have HCL := Lib.hid hcl
    clear hcut1 hcl hl
    go_wp2_with (with_reducible refine wpList_slice_run rfl 22 _ none _ rfl _ _ none _ rfl rfl rfl (hsl1 _) ?_)
    refine HCL.out.mono ?_
    rintro e2 w2 ⟨v2, rfl, hN2⟩
    have fin : RbPost g b0 s w (.returned v2) (w2.setCell ⟨g, 0, none⟩ (.slice (cutA A N c) (l.length - N) (c - N))) := by
      have hr := cutA_sub (c := c) (HG2.out.chg hN2.2.1 (fun _ _ => id)) N l.length (Nat.le_refl _) g3
      rw [List.take_length] at hr
      obtain ⟨q1, q2⟩ := Rd.set (s := (l.drop N, b)) (B := cutA A N c) (d := c - N) (chg_heap hN2.2.1 HG1.out) (i := 0) (v := .slice (cutA A N c) (l.length - N) (c - N)) (by simp) hr (by simp only [List.length_drop]; omega) ⟨HG4.out.1, fun hne a ha => by obtain ⟨b, hb, hbb⟩ := cutA_block ha; rw [hbb]; exact HG4.out.2 (by rintro rfl; simp at hne) b hb⟩ (HG5.out.drop N) (by simp only [List.length_drop]; omega)
      have e := HRB.out
      rw [if_neg (by omega)] at e
      refine ⟨_, rfl, ?_⟩
      rw [e]
      have hf : ∀ k, v2.ownBlock = some k → w.heap.size ≤ k := fun k hk => Nat.le_trans HC.out.size (hN2.2.2 k hk)
      exact ⟨hN2.1.chg q2 (fun k hk e => by have := hf k hk; omega), q1, (HC.out.trans hN2.2.1.weak (fun _ _ h => h)).trans q2 (fun _ _ h => h), hf⟩
    have FIN := Lib.hid fin
    have c0 : w2.cell? ⟨g, 0, none⟩ = some (.slice A l.length c) := chg_cell hN2.2.1 c0 id
    have f0 := frozen_of (chg_heap hN2.2.1 HG1.out) 0
    clear fin hN2 hsl1
    go_wp2_with (with_reducible refine wpList_slice_run rfl 22 _ _ none rfl _ _ _ none rfl rfl rfl (hsl2 _) ?_)
    go_ret
    exact FIN.out
end Go.Proofs.Ytcdbchdlenkdgaa
