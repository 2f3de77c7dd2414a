/- Voters: thresholds: formed, a stake's bag, a copy. -/
import Derived.Test.YthoagpagnldmeaaVi
import Derived.Test.YthoagpagnldmeaaVr
set_option linter.unusedVariables false
set_option linter.unusedSimpArgs false
namespace Go.Proofs.Ythoagpagnldmeaa.V
open Go.RowKit Go.Ps
theorem info68 : (Try.prog.info? 68).map (fun i => (i.zero, i.size, i.bytes)) = some (some (.int .u64 0), 1, 8) := by kernel_rfl
/-- Thresholds rise. -/
def Ris (T : List Int) : Prop := ∀ i, 0 < i → i < T.length → T.getD (i - 1) 0 < T.getD i 0
theorem Ris.lt {T : List Int} (h : Ris T) : ∀ {i j : Nat}, i < j → j < T.length → T.getD i 0 < T.getD j 0 := by
  intro i j hij
  obtain ⟨d, rfl⟩ : ∃ d, j = i + 1 + d := ⟨j - (i + 1), by omega⟩
  clear hij
  induction d with
  | zero => intro hj; exact h (i + 1) (by omega) hj
  | succ d ih =>
    intro hj
    have h1 := ih (by omega)
    have h2 := h (i + 1 + d + 1) (by omega) hj
    rw [show i + 1 + d + 1 - 1 = i + 1 + d by omega] at h2
    exact Int.lt_trans h1 h2
/-- The bag of a stake. -/
def bagOf (T : List Int) (s : Int) : Nat := T.findIdx (fun t => decide (s ≤ t))
theorem bagOf_le (T : List Int) (s : Int) : bagOf T s ≤ T.length := List.findIdx_le_length
theorem bagOf_eq {T : List Int} {s : Int} {k : Nat} (h1 : k ≤ T.length) (h2 : ∀ t, t < k → T.getD t 0 < s) (h3 : k < T.length → s ≤ T.getD k 0) : bagOf T s = k := by
  unfold bagOf
  by_cases hk : k < T.length
  · rw [List.findIdx_eq hk]
    refine ⟨?_, fun j hj => ?_⟩
    · have := h3 hk
      simpa [List.getD_eq_getElem?_getD, hk] using this
    · have := h2 j hj
      have hjl : j < T.length := by omega
      simp [List.getD_eq_getElem?_getD, hjl] at this
      simpa using this
  · obtain rfl : k = T.length := by omega
    rw [List.findIdx_eq_length]
    intro x hx
    obtain ⟨j, hj, rfl⟩ := List.mem_iff_getElem.1 hx
    have := h2 j hj
    simp [List.getD_eq_getElem?_getD, hj] at this
    simpa using this
theorem nan94 (x : Int) (w : World) : Calls Try.prog 94 #[.int .u64 x] w fun e w' => e = .returned (.bool false) ∧ w' = w := by
  go_enter Try.func94, Try.ntmps94
  go_wp2
  go_ret
  exact ⟨rfl, rfl⟩
theorem nan93 (x : Int) (w : World) : Calls Try.prog 93 #[.int .u64 x] w fun e w' => e = .returned (.bool false) ∧ w' = w := by
  go_enter Try.func93, Try.ntmps93
  go_wp2
  go_ret
  exact ⟨rfl, rfl⟩
theorem less92 (x y : Int) (w : World) : Calls Try.prog 92 #[.int .u64 x, .int .u64 y] w fun e w' => e = .returned (.bool (decide (x < y))) ∧ w' = w := by
  go_enter Try.func92, Try.ntmps92
  go_wp2_with fail
  refine (nan94 _ _).mono ?_
  rintro e w' ⟨rfl, rfl⟩
  go_wp2
  go_ret
  exact ⟨rfl, rfl⟩
def FormedPost (T : List Int) (w : World) (e : Ending) (w' : World) : Prop := ∃ b, e = .returned (.bool b) ∧ w' = w ∧ (b = true ↔ Ris T ∧ T.length ≤ 100)
def SearchPost (T : List Int) (s : Int) (w : World) (e : Ending) (w' : World) : Prop := ∃ b, e = .returned (.tuple #[.int .i64 (bagOf T s : Nat), .bool b]) ∧ w' = w
set_option maxRecDepth 20000 in
set_option maxHeartbeats 2000000 in
theorem formed_any {w : World} {A : Option Addr} {T : List Int} (c : Nat) (hT : T.length ≤ 1000) (hr : ReadsI w .u64 A T) :
    Calls Try.prog 75 #[.slice A T.length c] w (FormedPost T w) := by
  obtain ⟨n, hn⟩ : ∃ n, n = T.length := ⟨_, rfl⟩
  have HH := Lib.hid (⟨hn, hr⟩ : _ ∧ _)
  rw [← hn] at hT ⊢
  clear hn hr
  go_enter Try.func75, Try.ntmps75
  go_wp2
  go_loop [7] (fun i => ∃ k : Nat, i = .int .i64 k ∧ k ≤ n ∧ Hid (∀ j, 0 < j → j < k → T.getD (j - 1) 0 < T.getD j 0)) (fun i => n - (intOf i).toNat)
  case atStart => exact ⟨0, rfl, Nat.zero_le _, Lib.hid (fun j h1 h2 => by omega)⟩
  case round =>
    obtain ⟨k, rfl, hk, HI⟩ := hrel
    by_cases hkn : k < n
    · obtain ⟨hn, hr⟩ := HH.out
      obtain ⟨g, o, rfl, hc⟩ := hr.plain (by intro e; rw [e] at hn; simp at hn; omega)
      have h0 := hc k (by omega)
      obtain ⟨x, hx⟩ : ∃ x, x = T.getD k 0 := ⟨_, rfl⟩
      rw [← hx] at h0
      have HX := Lib.hid hx
      by_cases hk0 : k = 0
      · subst hk0
        have h00 : w.cell? ⟨g, o, none⟩ = some (.int .u64 x) := h0
        clear hc hr hn hx h0
        go_wp2
        go_round
        case rel => exact ⟨1, by go_num, by omega, Lib.hid (fun j h1 h2 => by omega)⟩
        case measure => simp [intOf]; omega
      · have h1 := hc (k - 1) (by omega)
        have hkc : ((k - 1 : Nat) : Int) = (k : Int) - 1 := by omega
        obtain ⟨y, hy⟩ : ∃ y, y = T.getD (k - 1) 0 := ⟨_, rfl⟩
        rw [← hy] at h1
        have HY := Lib.hid hy
        obtain ⟨p, hp⟩ : ∃ p, p = k - 1 := ⟨_, rfl⟩
        have hpk : k = p + 1 := by omega
        rw [← hp] at h1
        subst hpk
        have HP := Lib.hid hp
        clear hc hr hn hx hy hp hkc
        by_cases hxy : x ≤ y
        · have HXY := Lib.hid hxy
          go_wp2
          go_ret
          refine ⟨false, rfl, rfl, by simp, fun h => ?_⟩
          have := h.1 (p + 1) (by omega) (by rw [← HH.out.1]; exact hkn)
          rw [← HX.out, show p + 1 - 1 = p by omega] at this
          have h2 := HY.out
          rw [show p + 1 - 1 = p by omega] at h2
          have h3 := HXY.out
          omega
        · have HXY := Lib.hid hxy
          go_wp2
          go_round
          case rel =>
            refine ⟨p + 1 + 1, by go_num, by omega, Lib.hid (fun j h1 h2 => ?_)⟩
            by_cases e : j = p + 1
            · subst e
              rw [← HX.out, ← HY.out]
              have := HXY.out
              omega
            · exact HI.out j h1 (by omega)
          case measure => simp [intOf]; omega
    · obtain rfl : k = n := by omega
      by_cases hl : k ≤ 100
      · go_wp2
        go_ret
        refine ⟨decide ((k : Int) ≤ 100), rfl, rfl, fun _ => ⟨fun j h1 h2 => HI.out j h1 (by rw [HH.out.1]; exact h2), by rw [← HH.out.1]; exact hl⟩, fun _ => by simp; omega⟩
      · go_wp2
        go_ret
        refine ⟨decide ((k : Int) ≤ 100), rfl, rfl, fun h => ?_, fun h => ?_⟩
        · simp at h; omega
        · have := h.2
          rw [← HH.out.1] at this
          omega
set_option maxRecDepth 20000 in
set_option maxHeartbeats 4000000 in
theorem search_any {w : World} {A : Option Addr} {T : List Int} (c : Nat) (hT : T.length ≤ 1000) (hr : ReadsI w .u64 A T) (hs : Ris T) (s : Int) :
    Calls Try.prog 91 #[.slice A T.length c, .int .u64 s] w (SearchPost T s w) := by
  obtain ⟨n, hn⟩ : ∃ n, n = T.length := ⟨_, rfl⟩
  have HH := Lib.hid (⟨hn, hr, hs⟩ : _ ∧ _ ∧ _)
  rw [← hn] at hT ⊢
  clear hn hr hs
  go_enter Try.func91, Try.ntmps91
  go_wp2
  go_loop [7, 8] (fun a b => ∃ i j : Nat, i ≤ j ∧ j ≤ n ∧ a = .int .i64 i ∧ b = .int .i64 j ∧ Hid ((∀ t, t < i → T.getD t 0 < s) ∧ (∀ t, j ≤ t → t < n → s ≤ T.getD t 0))) (fun a b => (intOf b - intOf a).toNat)
  case atStart => exact ⟨0, n, by omega, Nat.le_refl _, rfl, rfl, Lib.hid ⟨fun t ht => by omega, fun t h1 h2 => by omega⟩⟩
  case round =>
    obtain ⟨i, j, hij, hjn, rfl, rfl, HI⟩ := hrel
    by_cases hlt : i < j
    · obtain ⟨h, hh⟩ : ∃ h : Nat, ((i : Int) + (j : Int)) / 2 = (h : Int) := ⟨(i + j) / 2, by omega⟩
      have h1 : i ≤ h := by omega
      have h2 : h < j := by omega
      have h3 : h < n := by omega
      obtain ⟨hn, hr, hs⟩ := HH.out
      obtain ⟨g, o, rfl, hc⟩ := hr.plain (by intro e; rw [e] at hn; simp at hn; omega)
      have h0 := hc h (by omega)
      obtain ⟨x, hx⟩ : ∃ x, x = T.getD h 0 := ⟨_, rfl⟩
      rw [← hx] at h0
      have HX := Lib.hid hx
      have hcl := less92 x s w
      clear hc hr hn hx hs
      by_cases hp : x < s
      · simp only [hp, decide_true] at hcl
        have HP := Lib.hid hp
        clear hp
        go_wp2_with fail
        refine hcl.mono ?_
        rintro e w2 ⟨rfl, rfl⟩
        clear hcl
        go_wp2
        go_round
        case rel =>
          refine ⟨h + 1, j, by omega, hjn, by go_num, rfl, Lib.hid ⟨fun t ht => ?_, HI.out.2⟩⟩
          have hp := HP.out
          rw [HX.out] at hp
          by_cases e : t = h
          · rw [e]; exact hp
          · have := HH.out.2.2.lt (i := t) (j := h) (by omega) (by have := HH.out.1; omega)
            omega
        case measure => simp [intOf]; omega
      · simp only [hp, decide_false] at hcl
        have HP := Lib.hid hp
        clear hp
        go_wp2_with fail
        refine hcl.mono ?_
        rintro e w2 ⟨rfl, rfl⟩
        clear hcl
        go_wp2
        go_round
        case rel =>
          refine ⟨i, h, by omega, by omega, rfl, rfl, Lib.hid ⟨HI.out.1, fun t ht htn => ?_⟩⟩
          have hp := HP.out
          rw [HX.out] at hp
          by_cases e : t = h
          · rw [e]; omega
          · have := HH.out.2.2.lt (i := h) (j := t) (by omega) (by have := HH.out.1; omega)
            omega
        case measure => simp [intOf]; omega
    · obtain rfl : i = j := by omega
      have hb : bagOf T s = i := bagOf_eq (by have := HH.out.1; omega) HI.out.1 (fun h => HI.out.2 i (Nat.le_refl _) (by rw [HH.out.1]; exact h))
      have HB := Lib.hid hb
      clear hb
      by_cases hin : i < n
      · obtain ⟨hn, hr, hs⟩ := HH.out
        obtain ⟨g, o, rfl, hc⟩ := hr.plain (by intro e; rw [e] at hn; simp at hn; omega)
        have h0 := hc i (by omega)
        obtain ⟨x, hx⟩ : ∃ x, x = T.getD i 0 := ⟨_, rfl⟩
        rw [← hx] at h0
        clear hc hr hn hx hs
        by_cases hxs : x = s
        · subst hxs
          go_wp2
          go_ret2
          exact ⟨_, by rw [HB.out]; rfl, rfl⟩
        · have hxb : (x == s) = false := by simpa using hxs
          have hn1 := nan93 x w
          go_wp2_with fail
          refine hn1.mono ?_
          rintro e w2 ⟨rfl, rfl⟩
          go_wp2
          go_ret2
          exact ⟨_, by rw [HB.out]; rfl, rfl⟩
      · go_wp2
        go_ret2
        exact ⟨_, by rw [HB.out]; rfl, rfl⟩
set_option maxRecDepth 20000 in
theorem bag_any {w : World} {A : Option Addr} {T : List Int} (c : Nat) (hr : ReadsI w .u64 A T) (hs : Ris T) (hl : T.length ≤ 100) (s : Int) :
    Calls Try.prog 88 #[.slice A T.length c, .int .u64 s] w fun e w' => e = .returned (.tuple #[.int .i64 (bagOf T s : Nat), .int .i64 0]) ∧ w' = w := by
  have hf := formed_any c (by omega) hr
  have hse := search_any c (by omega) hr hs s
  have HS := Lib.hid (⟨hs, hl⟩ : _ ∧ _)
  obtain ⟨n, hn⟩ : ∃ n, n = T.length := ⟨_, rfl⟩
  obtain ⟨k, hk⟩ : ∃ k, k = bagOf T s := ⟨_, rfl⟩
  rw [← hn] at hf hse ⊢
  have hse : Calls Try.prog 91 #[.slice A n c, .int .u64 s] w fun e w' => ∃ b, e = .returned (.tuple #[.int .i64 k, .bool b]) ∧ w' = w := by rw [hk]; exact hse
  rw [← hk]
  have HN := Lib.hid hn
  clear hr hs hl hk hn
  go_enter Try.func88, Try.ntmps88
  go_wp2_with fail
  refine hf.mono ?_
  rintro e w' ⟨b, rfl, rfl, hb⟩
  have hbt : b = true := hb.2 HS.out
  subst hbt
  clear hf hb
  go_wp2_with fail
  refine hse.mono ?_
  rintro e w' ⟨b, rfl, rfl⟩
  clear hse
  go_wp2
  go_ret2
  exact ⟨rfl, rfl⟩
set_option maxRecDepth 20000 in
set_option maxHeartbeats 2000000 in
theorem clone_any {w : World} {A : Option Addr} {T : List Int} (c : Nat) (hT : T.length ≤ 1000) (hr : ReadsI w .u64 A T) :
    Calls Try.prog 76 #[.slice A T.length c] w fun e w' => ∃ A' c', e = .returned (.slice A' T.length c') ∧ New 68 .u64 w w' (.slice A' T.length c') T := by
  cases A with
  | none =>
    obtain rfl := hr.none
    have e0 := Lib.run_eql_slice_nil (P := Try.prog) w 63 68 none 0 c 0 0 Try.underlying63
    simp only [List.length_nil]
    clear hr hT
    go_enter Try.func76, Try.ntmps76
    go_wp2
    go_ret
    exact ⟨none, 0, rfl, New.nil _ _ _⟩
  | some a =>
    have hC : Chg (fun _ => False) w (w.alloc (.cells #[] 68)) := (Chg.refl _ w).alloc _
    have ho0 : Go.Ps.Own (w.alloc (.cells #[] 68)) 68 .u64 (.slice (some ⟨w.heap.size, 0, none⟩) 0 0) [] := ⟨rfl, .inr ⟨w.heap.size, 0, #[], rfl, Nat.zero_le _, heap_alloc_at w _, Nat.le_refl _, Nat.zero_le _, rfl, rfl⟩⟩
    obtain ⟨A', c', w2, hrun, ho, hg, hat⟩ := ho0.appendR (P := Try.prog) 63 Try.underlying63 info68 (m := T) c (hr.chg hC (fun _ _ => id)) (by simp; omega) (by omega)
    have e0 := Lib.run_eql_slice_nil (P := Try.prog) w 63 68 (some a) T.length c 0 0 Try.underlying63
    simp only [List.length_nil, Nat.zero_add, List.nil_append] at hrun ho hat
    have hown : Value.ownBlock (.slice (some ⟨w.heap.size, 0, none⟩) 0 0) = some w.heap.size := rfl
    rw [hown] at hg hat
    have HN : Hid (New 68 .u64 w w2 (.slice A' T.length c') T) := Lib.hid ⟨ho, hC.trans ((Chg.refl (fun k => k = w.heap.size) _).grown hg (fun k hk _ => by simpa using hk.symm)) (fun k hk h => by omega), fun k hk => by
      rcases hat with hat | hat
      · rw [hat] at hk; simp at hk; omega
      · rw [hat] at hk; simp at hk; omega⟩
    obtain ⟨n, hn2⟩ : ∃ n, n = T.length := ⟨_, rfl⟩
    rw [← hn2] at hrun HN e0
    rw [← hn2]
    clear hr hT hC ho hg hat hown hn2 ho0
    go_enter Try.func76, Try.ntmps76
    go_wp2_with (at_builtin; refine wpList_append_run rfl _ _ 63 rfl _ _ _ _ rfl rfl hrun ?_)
    go_ret
    exact ⟨_, _, rfl, HN.out⟩
end Go.Proofs.Ythoagpagnldmeaa.V
