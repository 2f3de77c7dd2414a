/- The law CompactTakesLists (its second form): the walk. -/
import Derived.Test.YtcdbchdlenkdgaaL5
set_option linter.unusedVariables false
set_option linter.unusedSimpArgs false
namespace Go.Proofs.Ytcdbchdlenkdgaa
open Go.RowKit Go.Ps

theorem tks_len {l : List Int} (hb : Bytes l) : ∀ (n i : Nat) (acc : List Int), acc.length ≤ i → i ≤ l.length → (tks l n i acc).1.length ≤ l.length
  | 0, i, acc, h1, h2 => by simp only [tks]; omega
  | n + 1, i, acc, h1, h2 => by
    rw [tks_step]
    have hf := tk_facts (hb.drop i)
    rw [List.length_drop] at hf
    split
    · rename_i h0
      have h3 : 1 ≤ (tk (l.drop i)).2.1 ∧ (tk (l.drop i)).2.1 ≤ ((l.length - i : Nat) : Int) := by
        rcases hf with h | h
        · exact ⟨h.2.2.1, h.2.2.2.2.1⟩
        · omega
      exact tks_len hb n _ _ (by rw [List.length_append]; simp; omega) (by omega)
    · simp
theorem tkl_len {l : List Int} (hb : Bytes l) (most : Int) : (tkl l most).1.length ≤ l.length := by
  unfold tkl
  have hf := tk_facts hb
  split
  · split
    · simp
    · rcases hf with h | h
      · exact tks_len hb _ _ _ (by simp) (by omega)
      · omega
  · simp
set_option maxHeartbeats 1000000 in
theorem compactTakesLists_walk (A : Option Addr) (c : Nat) (l : List Int) (most : Int) (w : World) (hr : ReadsI w .u8 A l) (hw : ∀ x ∈ l, (Lit.int .u8 x).wf = true) (hy : l.length * 1 ≤ 140737488351232) (hc : l.length ≤ c) (hl : l.length ≤ 1048576) (hm : (Lit.int .i64 most).wf = true) :
    Calls Try.prog 4 #[.slice A l.length c, .int .i64 most] w fun e w' => e = .returned (.bool true) ∧ Below w.heap.size w w' := by
  have hb := bytes_of_wf hw
  have hmm : -9223372036854775808 ≤ most ∧ most ≤ 9223372036854775807 := by have := Go.bounds_i64 hm; omega
  have h1 := fun W (hW : Chg (fun _ => False) w W) => takelist_any W A c l most (hr.chg hW (fun _ _ => id)) hb (by omega) hc hmm
  have h2 := fun W (hW : Chg (fun _ => False) w W) => rtakelist_any W A c l most (hr.chg hW (fun _ _ => id)) hb (by omega) hc hmm
  obtain ⟨⟨L, k, f⟩, ht⟩ : ∃ t, t = tkl l most := ⟨_, rfl⟩
  rw [← ht] at h1 h2
  have hLl : L.length ≤ 28000000000000 := by have := tkl_len hb most; rw [← ht] at this; simp only at this; omega
  clear hr hw hy hb ht hm
  go_enter Try.func4, Try.ntmps4
  go_wp2_with (go_at_call 16; refine (awake_any w).mono ?_; rintro e1 w1 ⟨rfl, hb1⟩)
  refine (h1 _ (chg_of hb1)).mono ?_
  rintro e2 w2 ⟨v2, rfl, hN2⟩
  obtain ⟨A2, n2, d2, rfl, hn2, hr2⟩ := New.form3 hN2
  have HC2 := Lib.hid (chg_trans (chg_of hb1) hN2.2.1)
  simp only at hn2 hr2
  clear h1
  go_wp2_with fail
  refine (h2 _ HC2.out).mono ?_
  rintro e3 w3 ⟨v3, rfl, hN3⟩
  obtain ⟨A3, n3, d3, rfl, hn3, hr3⟩ := New.form3 hN3
  have hC3 := hN3.2.1
  simp only at hn3 hr3
  subst hn2
  subst hn3
  have h21 := same_any w3 A2 A3 d2 d3 L (hr2.chg hC3 (fun _ _ => id)) hr3 (by omega)
  have HC3 := Lib.hid hC3
  clear h2 hN2 hN3 hr2 hr3 hC3
  simp only []
  go_wp2_with fail
  refine h21.mono ?_
  rintro e4 w4 ⟨rfl, hC4⟩
  have HC4 := Lib.hid hC4
  clear hC4
  go_wp2
  go_ret
  exact ⟨by simp, chg_to_below (chg_trans (chg_trans HC2.out HC3.out) HC4.out)⟩
end Go.Proofs.Ytcdbchdlenkdgaa
