/- Marks: Of, and the laws' walks. -/
import Derived.Test.YtaifgalpeaaliaaRf
set_option linter.unusedVariables false
set_option linter.unusedSimpArgs false
namespace Go.Proofs.Ytaifgalpeaaliaa
open Go.RowKit Go.Ps

def tailBad (size : Int) (l : List Int) : Bool := rdI l (l.length - 1) / 2 ^ (size % 8).toNat != 0
def pofCode (size : Int) (l : List Int) : Int := if size < 0 ∨ 4096 < size then 1 else if (l.length : Int) ≠ (size + 7) / 8 ∨ (size % 8 ≠ 0 ∧ tailBad size l = true) then 2 else 0
def POfPost (size : Int) (l : List Int) (w : World) (e : Ending) (w' : World) : Prop :=
  (pofCode size l ≠ 0 → e = .returned (.tuple #[.pointer none, .int .i64 (pofCode size l)])) ∧
  (pofCode size l = 0 → ∃ b g, e = .returned (.tuple #[.pointer (some ⟨b, 0, none⟩), .int .i64 0]) ∧ MRep w' b g size l ∧ w.heap.size ≤ b ∧ w.heap.size ≤ g) ∧ Chg (fun _ => False) w w'
theorem pof_no {size : Int} {l : List Int} {w w' : World} {c : Int} (h : pofCode size l = c) (hc : c ≠ 0) (hw : Chg (fun _ => False) w w') : POfPost size l w (.returned (.tuple #[.pointer none, .int .i64 c])) w' :=
  ⟨fun _ => by rw [h], fun h' => absurd (h.symm.trans h') hc, hw⟩

theorem pof_any (size : Int) (A : Option Addr) (c : Nat) (l : List Int) (w : World) (hl : l.length ≤ 1000) (hr : ReadsI w .u8 A l) (hb : ∀ x ∈ l, isByte x) :
    Calls Try.prog 15 #[.int .i64 size, .slice A l.length c] w (POfPost size l w) := by
  by_cases h0 : size < 0
  · have fin := pof_no (w := w) (w' := w) (show pofCode size l = 1 by simp [pofCode, h0]) (by omega) (Chg.refl _ _)
    clear hr
    go_enter Try.func15, Try.ntmps15
    go_wp2
    go_ret2
    exact fin
  · by_cases h1 : 4096 < size
    · have fin := pof_no (w := w) (w' := w) (show pofCode size l = 1 by simp [pofCode, h1]) (by omega) (Chg.refl _ _)
      clear hr
      go_enter Try.func15, Try.ntmps15
      go_wp2
      go_ret2
      exact fin
    · have ecl : clamp size = size := by simp [clamp, h0, h1]
      have hs0 : 0 ≤ size := by omega
      have hs1 : size ≤ 4096 := by omega
      have hcode : pofCode size l = if (l.length : Int) ≠ (size + 7) / 8 ∨ (size % 8 ≠ 0 ∧ tailBad size l = true) then 2 else 0 := by
        rw [pofCode, if_neg (by omega)]
      obtain ⟨n, hn⟩ : ∃ n, n = (newBytes size).length := ⟨_, rfl⟩
      have hn8 : (n : Int) = (size + 7) / 8 := by rw [hn]; simp [newBytes]; omega
      have hnew : ∀ W, Calls Try.prog 12 #[.int .i64 size] W fun e w' => ∃ b g, e = .returned (.pointer (some ⟨b, 0, none⟩)) ∧ MRep w' b g size (newBytes size) ∧ W.heap.size ≤ b ∧ W.heap.size ≤ g ∧ Chg (fun _ => False) W w' ∧ w'.cell? ⟨b, 1, none⟩ = some (.slice (some ⟨g, 0, none⟩) n n) := by
        intro W
        have h := new_any size W
        rw [ecl] at h
        refine h.mono ?_
        rintro e w' ⟨b, g, he, hm, hbg, hgg, hc⟩
        have d1 := hm.c1
        rw [← hn] at d1
        exact ⟨b, g, he, hm, hbg, hgg, hc, d1⟩
      clear ecl
      by_cases hln : l.length = n
      · subst hln
        rw [hn8] at hcode
        simp only [ne_eq, not_true_eq_false, false_or] at hcode
        have hlnB := Lib.hid hn
        have hn8B := Lib.hid hn8
        clear hn hn8
        have hnew2 : ∀ W, Calls Try.prog 12 #[.int .i64 size] W fun e w' => ∃ b g w2, e = .returned (.pointer (some ⟨b, 0, none⟩)) ∧ w'.cell? ⟨b, 1, none⟩ = some (.slice (some ⟨g, 0, none⟩) l.length l.length) ∧ Chg (fun _ => False) W w' ∧ (ReadsI W .u8 A l → (∀ ty, (Builtin.copy_ #[28, 28] ty #[.slice (some ⟨g, 0, none⟩) l.length l.length, .slice A l.length c]).run Try.prog w' = .ok (.int .i64 l.length) w2) ∧ MRep w2 b g size l ∧ W.heap.size ≤ b ∧ W.heap.size ≤ g ∧ Chg (fun _ => False) W w2) := by
          intro W
          refine (hnew W).mono ?_
          rintro e w' ⟨b, g, he, hm, hbg, hgg, hc, d1⟩
          by_cases hrW : ReadsI W .u8 A l
          · obtain ⟨w2, hcp, hg2, hc2⟩ := run_copy_all (P := Try.prog) Try.underlying28 (by kernel_rfl) hm.hg c l.length (hrW.chg hc (fun _ _ => id)) (by simp [← hlnB.out])
            refine ⟨b, g, w2, he, d1, hc, fun _ => ⟨hcp, ⟨?_, hg2, hm.ne, hm.lo, hm.hi, hn8B.out⟩, hbg, hgg, hc.trans hc2 (fun j hj hjg => by omega)⟩⟩
            rw [hc2.block b (heap_lt hm.hb) hm.ne, hm.hb, ← hlnB.out]
          · exact ⟨b, g, w', he, d1, hc, fun h => absurd h hrW⟩
        clear hnew hlnB
        by_cases h8 : size % 8 = 0
        · have hyes : pofCode size l = 0 := by rw [hcode, if_neg (by omega)]
          have h8B : (size % 8 != 0) = false := by simpa using h8
          have hrB := Lib.hid hr
          clear hcode hn8B h8 hr
          go_enter Try.func15, Try.ntmps15
          go_wp2_with (go_at_call 12; refine (hnew2 w).mono ?_; rintro e w1 ⟨b, g, w2, rfl, d1, hc1, hw2⟩; have hcp := (hw2 hrB.out).1)
          go_ret2
          obtain ⟨_, hm2, hbg, hgg, hc2⟩ := hw2 hrB.out
          exact ⟨fun h => absurd hyes h, fun _ => ⟨b, g, rfl, hm2, hbg, hgg⟩, hc2⟩
        · have hpos : 0 < l.length := by have := hn8B.out; omega
          obtain ⟨a, rfl, hcells⟩ := hr (by rintro rfl; simp at hpos)
          have e1 : ((l.length : Int) - 1).toNat = l.length - 1 := by omega
          have hcell : ∀ (w1 : World), Chg (fun _ => False) w w1 → w1.cell? (a.add (l.length - 1)) = some (.int .u8 (rdI l ((l.length : Int) - 1))) := fun w1 hc => by
            rw [(hr.chg hc (fun _ _ => id)).mem (l.length - 1) (by omega), rdI, e1]
          have h8B : (size % 8 != 0) = true := by simpa using h8
          have h80 : 0 ≤ size % 8 := by omega
          cases ht : tailBad size l with
          | true =>
            have hno : pofCode size l = 2 := by rw [hcode, if_pos ⟨h8, ht⟩]
            rw [tailBad] at ht
            clear hcode hn8B h8 hcells e1
            go_enter Try.func15, Try.ntmps15
            go_wp2_with (go_at_call 12; refine (hnew2 w).mono ?_; rintro e w1 ⟨b, g, w2, rfl, d1, hc1, hw2⟩; have dl := hcell w1 hc1)
            go_ret2
            exact pof_no hno (by omega) hc1
          | false =>
            have hyes : pofCode size l = 0 := by rw [hcode, if_neg (by simp [ht])]
            rw [tailBad] at ht
            have hrB := Lib.hid hr
            clear hcode hn8B h8 hcells hr e1
            go_enter Try.func15, Try.ntmps15
            go_wp2_with (go_at_call 12; refine (hnew2 w).mono ?_; rintro e w1 ⟨b, g, w2, rfl, d1, hc1, hw2⟩; have hcp := (hw2 hrB.out).1; have dl := hcell w1 hc1)
            go_ret2
            obtain ⟨_, hm2, hbg, hgg, hc2⟩ := hw2 hrB.out
            exact ⟨fun h => absurd hyes h, fun _ => ⟨b, g, rfl, hm2, hbg, hgg⟩, hc2⟩
      · have hno : pofCode size l = 2 := by rw [hcode, if_pos]; left; omega
        have hd : (l.length == n) = false := by simpa using hln
        clear hcode hn8 hn hr
        go_enter Try.func15, Try.ntmps15
        go_wp2_with (go_at_call 12; refine (hnew w).mono ?_; rintro e w1 ⟨b, g, rfl, hm, hbg, hgg, hc1, d1⟩)
        go_ret2
        exact pof_no hno (by omega) hc1
end Go.Proofs.Ytaifgalpeaaliaa
