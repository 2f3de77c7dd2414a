/- Spans: the document's spans, and what each of their functions does. -/
import Derived.Test.YtpbiilndmcnnfaaNl
set_option linter.unusedVariables false
set_option linter.unusedSimpArgs false
namespace Go.Proofs.Ytpbiilndmcnnfaa
open Go.RowKit Go.Ps

structure RRep (w : World) (b : Nat) (v1 : Value) (B : Nat) (begin_ : List Int) (ps : List (Int × Value)) : Prop where
  hb : w.heap[b]? = some (.cells #[v1, .map (some B)] 43 (0, 0))
  h1 : Own w 3 .i64 v1 begin_
  h2 : IMap w B ps
  n1 : v1.ownBlock ≠ some b
  n3 : v1.ownBlock ≠ some B
  l1 : begin_.length ≤ 1000000
def RFoot (b : Nat) (v1 : Value) (B : Nat) (k : Nat) : Prop := k = b ∨ v1.ownBlock = some k ∨ k = B
theorem RRep.ne {w : World} {b B : Nat} {v1 : Value} {l : List Int} {ps : List (Int × Value)} (h : RRep w b v1 B l ps) : b ≠ B := by
  rintro rfl
  obtain ⟨es, c, h2, _⟩ := h.h2
  have := h.hb
  rw [h2] at this
  cases this
theorem RRep.chg {w w' : World} {b B : Nat} {v1 : Value} {l : List Int} {ps : List (Int × Value)} (h : RRep w b v1 B l ps) {F : Nat → Prop} (hc : Chg F w w') (hF : ∀ k, RFoot b v1 B k → ¬ F k) : RRep w' b v1 B l ps :=
  ⟨(hc.block b (heap_lt h.hb) (hF b (Or.inl rfl))).trans h.hb, h.h1.chg hc (fun k hk => hF k (Or.inr (Or.inl hk))), h.h2.chg hc (hF B (Or.inr (Or.inr rfl))), h.n1, h.n3, h.l1⟩
theorem RRep.c0 {w : World} {b B : Nat} {v1 : Value} {l : List Int} {ps : List (Int × Value)} (h : RRep w b v1 B l ps) : w.cell? ⟨b, 0, none⟩ = some v1 := cell_of h.hb 0 rfl
theorem RRep.c1 {w : World} {b B : Nat} {v1 : Value} {l : List Int} {ps : List (Int × Value)} (h : RRep w b v1 B l ps) : w.cell? ⟨b, 1, none⟩ = some (.map (some B)) := cell_of h.hb 1 rfl
theorem RRep.lt {w : World} {b B : Nat} {v1 : Value} {l : List Int} {ps : List (Int × Value)} (h : RRep w b v1 B l ps) {k : Nat} (hk : RFoot b v1 B k) : k < w.heap.size := by
  rcases hk with rfl | hk | rfl
  · exact heap_lt h.hb
  · exact h.h1.lt hk
  · exact h.h2.lt
theorem zero32 (w : World) : (zeroValue 32).run Try.prog w = .ok (.int .u64 0) w := by kernel_rfl
theorem RRep.look {w : World} {b B : Nat} {v1 : Value} {l : List Int} {ps : List (Int × Value)} (h : RRep w b v1 B l ps) (k : Int) : (Instr.lookup 41 (.map (some B)) (.int .i64 k) false).run Try.prog w = .ok (IM.get ps k (.int .u64 0)) w := by
  have := h.h2.look Try.underlying41 Try.underlying3 (zero32 w) k false
  rwa [if_neg (by simp)] at this

theorem rnew_any (w : World) : Calls Try.prog 8 #[] w fun e w' => ∃ b B, e = .returned (.pointer (some ⟨b, 0, none⟩)) ∧ RRep w' b (.slice none 0 0) B [] [] ∧ w.heap.size ≤ b ∧ w.heap.size ≤ B ∧ Chg (fun _ => False) w w' := by
  have hmm := @run_makeMap Try.prog
  go_enter Try.func8, Try.ntmps8
  go_wp2
  go_ret
  refine ⟨w.heap.size + 1, w.heap.size, rfl, ⟨?_, Own.nil _ _ _, ?_, by simp [Value.ownBlock], by simp [Value.ownBlock], by simp⟩, by omega, Nat.le_refl _, ((Chg.refl _ _).alloc _).alloc _⟩
  · have := heap_alloc_at (w.alloc (.map #[] 0)) (.cells #[.slice none 0 0, .map (some w.heap.size)] 43)
    simp only [World.size_alloc] at this
    exact this
  · exact (IMap.made w).chg ((Chg.refl (fun _ => False) _).alloc _) id

/-- The spans that begin with the era or earlier. -/
def rpos (l : List Int) (x : Int) : Nat := (l.takeWhile (fun y => decide (y ≤ x))).length
theorem rpos_at : ∀ (l : List Int) (x : Int), rpos l x ≤ l.length ∧ (∀ j, j < rpos l x → l.getD j 0 ≤ x) ∧ (rpos l x < l.length → x < l.getD (rpos l x) 0)
  | [], x => ⟨by simp [rpos], fun j hj => by simp [rpos] at hj, fun h => by simp at h⟩
  | y :: l, x => by
    obtain ⟨h1, h2, h3⟩ := rpos_at l x
    by_cases hy : y ≤ x
    · have e : rpos (y :: l) x = rpos l x + 1 := by simp [rpos, hy]
      rw [e]
      refine ⟨by simp; exact h1, fun j hj => ?_, fun h => ?_⟩
      · cases j with
        | zero => simpa using hy
        | succ j => simpa using h2 j (by omega)
      · simpa using h3 (by simpa using h)
    · have e : rpos (y :: l) x = 0 := by simp [rpos, hy]
      rw [e]
      exact ⟨by simp, fun j hj => by omega, fun _ => by simp; omega⟩

theorem rspan_any (x : Int) (w : World) (b : Nat) (v1 : Value) (B : Nat) (l : List Int) (ps : List (Int × Value)) (h : RRep w b v1 B l ps) :
    Calls Try.prog 14 #[.pointer (some ⟨b, 0, none⟩), .int .i64 x] w fun e w' => e = .returned (.int .i64 (rpos l x)) ∧ w = w' := by
  have c0 := h.c0
  have hl := h.l1
  obtain ⟨A, c, rfl, hr, _, _⟩ := h.h1.form
  obtain ⟨hp1, hp2, hp3⟩ := rpos_at l x
  obtain ⟨n, hn⟩ : ∃ n, n = rpos l x := ⟨_, rfl⟩
  rw [← hn] at hp1 hp2 hp3 ⊢
  have HP2 := Lib.hid hp2
  have HP3 := Lib.hid hp3
  have HR := Lib.hid hr
  clear hp2 hp3 hn h hr
  go_enter Try.func14, Try.ntmps14
  go_wp2
  go_loop [5] (fun i => ∃ k : Nat, k ≤ n ∧ i = .int .i64 k) (fun i => n - (intOf i).toNat)
  case atStart => exact ⟨0, Nat.zero_le _, rfl⟩
  case round =>
    obtain ⟨k, hk, rfl⟩ := hrel
    by_cases hlt : k < l.length
    · obtain ⟨a, rfl, hx⟩ := HR.out (by rintro rfl; simp at hlt)
      have hc := hx k hlt
      clear hx
      by_cases hkn : k < n
      · have h2 := HP2.out k hkn
        obtain ⟨v, hv⟩ : ∃ v, v = l.getD k 0 := ⟨_, rfl⟩
        rw [← hv] at hc h2
        clear hv
        go_wp2
        go_round
        case rel => exact ⟨k + 1, by omega, by go_num⟩
        case measure => simp [intOf]; omega
      · have e : k = n := by omega
        have h3 := HP3.out (by omega)
        rw [← e] at h3
        obtain ⟨v, hv⟩ : ∃ v, v = l.getD k 0 := ⟨_, rfl⟩
        rw [← hv] at hc h3
        have h3' : ¬ v ≤ x := by omega
        clear hv
        subst e
        go_wp2
        go_ret
        exact ⟨rfl, rfl⟩
    · have e : k = n := by omega
      subst e
      go_wp2
      go_ret
      exact ⟨rfl, rfl⟩

def rendB (l : List Int) (era : Int) : Bool := decide (0 ≤ era ∧ era < 1073741824 ∧ rpos l era = l.length)
def REndPost (b : Nat) (v1 : Value) (B : Nat) (l : List Int) (ps : List (Int × Value)) (era : Int) (w : World) (e : Ending) (w' : World) : Prop :=
  ∃ v1', e = .returned (.bool (rendB l era)) ∧ RRep w' b v1' B (if rendB l era then l ++ [era + 1] else l) ps ∧ Chg (fun k => k = b) w w' ∧ (∀ k, v1'.ownBlock = some k → v1.ownBlock = some k ∨ w.heap.size ≤ k)

set_option maxHeartbeats 4000000 in
theorem rend_any (era : Int) (w : World) (b : Nat) (v1 : Value) (B : Nat) (l : List Int) (ps : List (Int × Value)) (h : RRep w b v1 B l ps) (hroom : l.length < 100000) :
    Calls Try.prog 12 #[.pointer (some ⟨b, 0, none⟩), .int .i64 era] w (REndPost b v1 B l ps era w) := by
  have c0 := h.c0
  have stay : ∀ w', Chg (fun _ => False) w w' → rendB l era = false → REndPost b v1 B l ps era w (.returned (.bool false)) w' := fun w' hc he => ⟨v1, by rw [he], by rw [he]; exact h.chg hc (fun _ _ => id), hc.mono (fun _ _ h => absurd h id), fun k hk => Or.inl hk⟩
  have hd : RRep w.drew b v1 B l ps := h.chg ((Chg.refl (fun _ => False) w).drew) (fun _ _ => id)
  have hspd := rspan_any era w.drew b v1 B l ps hd
  have c0d := hd.c0
  obtain ⟨A, c, hv1, hr, _, _⟩ := hd.h1.form
  by_cases h0 : era < 0
  · have e : rendB l era = false := by simp [rendB]; omega
    have fin := fun n => stay _ ((Chg.refl _ w).drewN n) e
    clear stay e hr hspd hd h
    subst hv1
    have he0 : decide (era < 0) = true := by simpa using h0
    go_enter Try.func12, Try.ntmps12
    go_wp2
    go_quiet (fail)
    go_wp2
    go_ret
    exact fin _
  · have he0 : decide (era < 0) = false := by simpa using h0
    by_cases h1 : 1073741824 ≤ era
    · have e : rendB l era = false := by simp [rendB]; omega
      have fin := fun n => stay _ ((Chg.refl _ w).drewN n) e
      clear stay e hr hspd hd h
      subst hv1
      have he1 : decide (1073741824 ≤ era) = true := by simpa using h1
      go_enter Try.func12, Try.ntmps12
      go_wp2
      go_quiet (fail)
      go_wp2
      go_ret
      exact fin _
    · have he1 : decide (1073741824 ≤ era) = false := by simpa using h1
      by_cases h2 : rpos l era < l.length
      · have e : rendB l era = false := by simp [rendB]; omega
        have fin := stay _ ((Chg.refl _ w).drew) e
        have h2' : (rpos l era : Int) < l.length := by omega
        clear stay e hr hd h
        subst hv1
        go_enter Try.func12, Try.ntmps12
        go_wp2
        go_region_held (fun w' => w'.cell? ⟨b, 0, none⟩ = some (.slice A l.length c)) (first | exact c0d | go_keep) (first | (go_at_call 14; refine hspd.mono ?_; rintro e w' ⟨rfl, rfl⟩))
        all_goals
          go_wp2
          go_ret
          exact fin
      · have hpe : rpos l era = l.length := by have := (rpos_at l era).1; omega
        have e : rendB l era = true := by simp [rendB, hpe]; omega
        obtain ⟨V, hV⟩ : ∃ V, V = w.drew.alloc (.cells #[] 3) := ⟨_, rfl⟩
        have hcV : Chg (fun _ => False) w V := by rw [hV]; exact ((Chg.refl _ w).drew).alloc _
        have hownV : Own V 3 .i64 (.slice (some ⟨w.drew.heap.size, 0, none⟩) 0 0) [] := by rw [hV]; exact World.ownsRow_made w.drew #[] 0 (Nat.zero_le _) (by decide) rfl
        have hrV : ReadsI V .i64 A l := by rw [hV]; exact hr.alloc _
        obtain ⟨A2, c2, w2, hap2, ho2, hg2, hat2⟩ := hownV.appendR (P := Try.prog) 28 Try.underlying28 info3 c hrV (by simp; omega) (by omega)
        simp only [List.length_nil, Nat.zero_add, List.nil_append] at hap2 ho2 hat2
        obtain ⟨A3, c3, w3, hap3, ho3, hg3, hat3⟩ := ho2.append1 (P := Try.prog) 28 Try.underlying28 info3 (era + 1) (by omega) (by omega)
        have hc2 : Chg (fun _ => False) w w2 := hcV.grown hg2 (fun k hk hlt => by
          cases hk
          exact absurd hlt (Nat.lt_irrefl _))
        have hb2 : ∀ k, Value.ownBlock (.slice A2 l.length c2) = some k → w.heap.size ≤ k := fun k hk => by
          rcases hat2 with h' | h'
          · rw [h'] at hk
            cases hk
            exact Nat.le_refl _
          · rw [h'] at hk
            cases hk
            exact hcV.size
        have hc3 : Chg (fun _ => False) w w3 := hc2.grown hg3 (fun k hk hlt => by have := hb2 k hk; omega)
        have hblk : w3.heap[b]? = some (.cells #[v1, .map (some B)] 43 (0, 0)) := (hc3.block b (heap_lt h.hb) id).trans h.hb
        have hb3 : ∀ k, Value.ownBlock (.slice A3 (l.length + 1) c3) = some k → w.heap.size ≤ k := fun k hk => by
          rcases hat3 k hk with h' | h'
          · exact hb2 k h'
          · exact Nat.le_trans hc2.size h'
        have f0 : w3.cell? ⟨b, 0, none⟩ = some (.slice A l.length c) := by rw [← hv1]; exact cell_of hblk 0 rfl
        have f1 : w3.frozen? ⟨b, 0, none⟩ = false := frozen_of hblk 0
        have fin : REndPost b v1 B l ps era w (.returned (.bool true)) (w3.setCell ⟨b, 0, none⟩ (.slice A3 (l.length + 1) c3)) := by
          have hset : Chg (fun k => k = b) w3 (w3.setCell ⟨b, 0, none⟩ (.slice A3 (l.length + 1) c3)) := (Chg.refl (fun k => k = b) w3).setCell (fun _ => rfl) _
          have hlb := heap_lt h.hb
          have hlB := h.h2.lt
          refine ⟨_, by rw [e], ?_, Chg.setCell (F := fun k => k = b) (hc3.mono (fun _ _ h => absurd h id)) (fun _ => rfl) _, fun k hk => Or.inr (hb3 k hk)⟩
          rw [e, if_pos rfl]
          refine ⟨?_, ho3.chg hset (fun k hk e => by have := hb3 k hk; omega), (h.h2.chg hc3 id).chg hset (fun e => h.ne e.symm), fun hk => by have := hb3 b hk; omega, fun hk => by have := hb3 B hk; omega, by simp; omega⟩
          rw [heap_setCell hblk]
          rfl
        have hpe' : ¬ (rpos l era : Int) < l.length := by omega
        have cal : (w.alloc (.cells #[] 3)).cell? ⟨b, 0, none⟩ = some (.slice A l.length c) := by
          rw [← hv1]
          exact cell_of ((((Chg.refl (fun _ => False) w).alloc (.cells #[] 3)).block b (heap_lt h.hb) id).trans h.hb) 0 rfl
        rw [hV] at hap2
        replace hap2 : (Builtin.append_ #[28, 28] 28 #[.slice (some ⟨w.heap.size, 0, none⟩) 0 0, .slice A l.length c]).run Try.prog ((w.alloc (.cells #[] 3)).drew) = .ok (.slice A2 l.length c2) w2 := hap2
        have hsum : era + 1 ≤ 1073741824 := by omega
        have hsum0 : 0 ≤ era := by omega
        clear stay e hr hd h hpe hV hcV hownV hrV ho2 hg2 hat2 ho3 hg3 hat3 hc2 hb2 hc3 hblk hb3 hroom
        subst hv1
        go_enter Try.func12, Try.ntmps12
        go_wp2
        go_region_held (fun w' => w'.cell? ⟨b, 0, none⟩ = some (.slice A l.length c)) (first | exact c0d | go_keep) (first | (go_at_call 14; refine hspd.mono ?_; rintro e w' ⟨rfl, rfl⟩))
        all_goals
          go_wp2_with (at_builtin; first | (refine wpList_append_run rfl _ _ 28 rfl _ _ _ _ rfl rfl hap2 ?_; clear hap2) | (refine wpList_append_run rfl _ _ 28 rfl _ _ _ _ rfl rfl hap3 ?_; clear hap3))
          go_ret
          exact fin
end Go.Proofs.Ytpbiilndmcnnfaa
