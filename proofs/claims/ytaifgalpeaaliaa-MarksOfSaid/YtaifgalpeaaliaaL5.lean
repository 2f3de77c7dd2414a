/- Marks: the walk of the law MarksOf. -/
import Derived.Test.YtaifgalpeaaliaaPl
set_option linter.unusedVariables false
set_option linter.unusedSimpArgs false
namespace Go.Proofs.Ytaifgalpeaaliaa
open Go.RowKit Go.Ps

set_option maxHeartbeats 8000000 in
theorem marksOf_walk (size : Int) (A : Option Addr) (c : Nat) (l : List Int) (w : World) (_wf : (Lit.int .i64 size).wf = true) (hr : ReadsI w .u8 A l) (hw : ∀ x ∈ l, (Lit.int .u8 x).wf = true) (hy : l.length * 1 ≤ 140737488351232) :
    Calls Try.prog 5 #[.int .i64 size, .slice A l.length c] w fun e w' => e = .returned (.bool true) ∧ Below w.heap.size w w' := by
  have hb : ∀ x ∈ l, isByte x := fun x hx => bounds_u8 (hw x hx)
  by_cases hl : l.length ≤ 1000
  · by_cases h0 : pofCode size l = 0
    · obtain ⟨hsame, hof⟩ := of_same hb h0
      have hp : ∀ W, ReadsI W .u8 A l → Calls Try.prog 15 #[.int .i64 size, .slice A l.length c] W fun e w' => ∃ b g, e = .returned (.tuple #[.pointer (some ⟨b, 0, none⟩), .int .i64 0]) ∧ MRep w' b g size l ∧ Chg (fun _ => False) W w' := by
        intro W hrW
        refine (pof_any size A c l W hl hrW hb).mono ?_
        rintro e w' ⟨_, h2, h3⟩
        obtain ⟨b, g, he, hm, _, _⟩ := h2 h0
        exact ⟨b, g, he, hm, h3⟩
      have hq : ∀ W, ReadsI W .u8 A l → Calls Try.prog 17 #[.int .i64 size, .slice A l.length c] W fun e w' => ∃ b B, e = .returned (.tuple #[.pointer (some ⟨b, 0, none⟩), .int .i64 0]) ∧ RRep w' b B size (ofPs size l (8 * l.length)) ∧ Chg (fun _ => False) W w' := by
        intro W hrW
        refine (rof_any size A c l W hl hrW hb).mono ?_
        rintro e w' ⟨_, h2, h3⟩
        obtain ⟨b, B, he, hm, _, _⟩ := h2 hof
        exact ⟨b, B, he, hm, h3⟩
      have hcnt := hsame.count
      go_enter Try.func5, Try.ntmps5
      go_wp2_with (first | (go_at_call 6; refine (awake_any w).mono ?_; rintro e w1 ⟨rfl, hb1⟩) | (go_at_call 15; refine (hp _ (hr.below hb1)).mono ?_; rintro e w2 ⟨b, g, rfl, hm, hc2⟩) | (go_at_call 17; refine (hq _ ((hr.below hb1).chg hc2 (fun _ _ => id))).mono ?_; rintro e w3 ⟨b', B', rfl, hm3, hc3⟩))
      have hb3 : Below w.heap.size w w3 := hb1.trans ((hc2.trans hc3 (fun _ _ => id)).below (fun k hk => ⟨Nat.lt_of_lt_of_le hk hb1.size, id⟩))
      have hm' : MRep w3 b g size l := hm.kept hc3 id id
      have hmd : MRep w3.drew b g size l := ⟨hm'.hb, hm'.hg, hm'.ne, hm'.lo, hm'.hi, hm'.len⟩
      have h3d := hm3.drew
      have hr3 : ReadsI w3.drew .u8 A l := hr.below hb3.drew
      have cv3 := run_str (P := Try.prog) Try.underlying28 Try.underlying5 Try.underlying9 c hr3
      have hby := bytes_any w3.drew b g size l hmd
      have hco : ∀ W, MRep W b g size l → Calls Try.prog 9 #[.pointer (some ⟨b, 0, none⟩)] W fun e w' => e = .returned (.int .i64 (ofPs size l (8 * l.length)).length) ∧ W = w' := by
        intro W hW
        have h := count_any W b g size l hW
        rwa [hcnt] at h
      clear hp hq hsame hof hcnt hm hc2 hc3 h0 hb1 hm' hm3
      go_region_with (first | (go_at_call 11; refine hby.mono ?_; rintro e w4 ⟨v, rfl, hown, hb4⟩; obtain ⟨A4, c4, rfl, hr4, _⟩ := ReadsI.of_own hown; have hm4 : MRep w4 b g size l := hmd.kept (Chg.ofBelow (F := fun _ => False) hb4) id id; have h4 : RRep w4 b' B' size (ofPs size l (8 * l.length)) := h3d.kept (Chg.ofBelow (F := fun _ => False) hb4) id id; have cv4 := run_str (P := Try.prog) Try.underlying28 Try.underlying5 Try.underlying9 c (hr3.below hb4); have cv5 := run_str (P := Try.prog) Try.underlying28 Try.underlying5 Try.underlying9 c4 hr4; have d1 := h4.c1; have ln4 := fun ty => h4.hB.len (P := Try.prog) Try.underlying34 ty) | (go_at_call 9; refine (hco _ hm4).mono ?_; rintro e w5 ⟨rfl, rfl⟩))
      all_goals
        go_wp2
        go_ret
        refine ⟨?_, hb3.drew.trans (hb4.mono hb3.size)⟩; simp [Act.put]
    · have hcode := of_code (size := size) hb
      obtain ⟨x, hx⟩ : ∃ x, x = pofCode size l := ⟨_, rfl⟩
      have hne : (x != 0) = true := by rw [hx]; simpa using h0
      have hp : ∀ W, ReadsI W .u8 A l → Calls Try.prog 15 #[.int .i64 size, .slice A l.length c] W fun e w' => e = .returned (.tuple #[.pointer none, .int .i64 x]) ∧ Chg (fun _ => False) W w' := by
        intro W hrW
        refine (pof_any size A c l W hl hrW hb).mono ?_
        rintro e w' ⟨h2, _, h3⟩
        exact ⟨by rw [hx]; exact h2 h0, h3⟩
      have hq : ∀ W, ReadsI W .u8 A l → Calls Try.prog 17 #[.int .i64 size, .slice A l.length c] W fun e w' => e = .returned (.tuple #[.pointer none, .int .i64 x]) ∧ Chg (fun _ => False) W w' := by
        intro W hrW
        refine (rof_any size A c l W hl hrW hb).mono ?_
        rintro e w' ⟨h2, _, h3⟩
        rw [hx, hcode]
        exact ⟨h2 (by rw [← hcode]; exact h0), h3⟩
      clear hcode hx h0
      go_enter Try.func5, Try.ntmps5
      go_wp2_with (first | (go_at_call 6; refine (awake_any w).mono ?_; rintro e w1 ⟨rfl, hb1⟩) | (go_at_call 15; refine (hp _ (hr.below hb1)).mono ?_; rintro e w2 ⟨rfl, hc2⟩) | (go_at_call 17; refine (hq _ ((hr.below hb1).chg hc2 (fun _ _ => id))).mono ?_; rintro e w3 ⟨rfl, hc3⟩))
      go_ret
      exact ⟨by simp, hb1.trans ((hc2.trans hc3 (fun _ _ => id)).below (fun k hk => ⟨Nat.lt_of_lt_of_le hk hb1.size, id⟩))⟩
  · clear hr hw hb
    have hlong : 1000 < l.length := by omega
    have tok : True := trivial
    go_enter Try.func5, Try.ntmps5
    go_wp2_with (first | (go_at_call 6; clear tok; refine (awake_any w).mono ?_; rintro e w1 ⟨rfl, hb1⟩) | (go_at_call 6; refine (awake_any w1).mono ?_; rintro e w2 ⟨rfl, hb2⟩))
    go_ret
    exact ⟨rfl, hb1.trans (hb2.mono hb1.size)⟩
end Go.Proofs.Ytaifgalpeaaliaa
