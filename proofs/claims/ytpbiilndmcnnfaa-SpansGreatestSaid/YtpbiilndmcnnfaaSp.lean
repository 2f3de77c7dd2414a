/- Spans: what the program's spans are in memory, and what each of its functions does. -/
import Derived.Test.YtpbiilndmcnnfaaProg
import Derived.Test.YtpbiilndmcnnfaaKit
import Derived.Outline
import Derived.RegionTactic
import Derived.ChangeAlike
import Derived.Deep.QuietTactic
import Derived.BigQuiet
import Derived.StillTailTactics
import Derived.Deep.RegionHeld3
import Derived.OpenShut
set_option linter.unusedVariables false
set_option linter.unusedSimpArgs false
namespace Go.Proofs.Ytpbiilndmcnnfaa
open Go.RowKit Go.Ps

theorem info3 : (Try.prog.info? 3).map (fun i => (i.zero, i.size, i.bytes)) = some (some (.int .i64 0), 1, 8) := by kernel_rfl
theorem info32 : (Try.prog.info? 32).map (fun i => (i.zero, i.size, i.bytes)) = some (some (.int .u64 0), 1, 8) := by kernel_rfl

/-! ### the search -/
theorem isnan20 (x : Int) (w : World) : Calls Try.prog 20 #[.int .i64 x] w fun e w' => e = .returned (.bool false) ∧ w = w' := by
  go_enter Try.func20, Try.ntmps20
  go_wp2
  go_ret
  exact ⟨by simp, rfl⟩
theorem isnan19 (x : Int) (w : World) : Calls Try.prog 19 #[.int .i64 x] w fun e w' => e = .returned (.bool false) ∧ w = w' := by
  go_enter Try.func19, Try.ntmps19
  go_wp2
  go_ret
  exact ⟨by simp, rfl⟩
theorem less18 (x y : Int) (w : World) : Calls Try.prog 18 #[.int .i64 x, .int .i64 y] w fun e w' => e = .returned (.bool (decide (x < y))) ∧ w = w' := by
  go_enter Try.func18, Try.ntmps18
  go_wp2_with (go_at_call 20; refine (isnan20 _ _).mono ?_; rintro e w' ⟨rfl, rfl⟩)
  go_ret
  exact ⟨by simp, rfl⟩

def IsAt (l : List Int) (x : Int) (a : Nat) : Prop := a ≤ l.length ∧ (∀ j, j < a → l.getD j 0 < x) ∧ (a < l.length → x ≤ l.getD a 0)
def Up (l : List Int) : Prop := ∀ i j, i < j → j < l.length → l.getD i 0 < l.getD j 0
theorem Up.le {l : List Int} (h : Up l) {i j : Nat} (hij : i ≤ j) (hj : j < l.length) : l.getD i 0 ≤ l.getD j 0 := by
  rcases Nat.lt_or_ge i j with h1 | h1
  · exact Int.le_of_lt (h i j h1 hj)
  · have : i = j := by omega
    subst this
    exact Int.le_refl _

def BsPost (l : List Int) (x : Int) (w : World) (e : Ending) (w' : World) : Prop := ∃ (a : Nat) (b : Bool), e = .returned (.tuple #[.int .i64 a, .bool b]) ∧ IsAt l x a ∧ w = w'
theorem bs_any (w : World) (A : Option Addr) (c : Nat) (l : List Int) (x : Int) (hr : ReadsI w .i64 A l) (hu : Up l) (hl : l.length ≤ 17592186044416) :
    Calls Try.prog 17 #[.slice A l.length c, .int .i64 x] w (BsPost l x w) := by
  have hcell : ∀ a, A = some a → ∀ h, h < l.length → w.cell? (a.add h) = some (.int .i64 (l.getD h 0)) := fun a ha h hh => by
    subst ha
    exact hr.mem h hh
  have hsome : 0 < l.length → ∃ a, A = some a := fun hp => by
    obtain ⟨a, ha, _⟩ := hr (by rintro rfl; simp at hp)
    exact ⟨a, ha⟩
  clear hr
  go_enter Try.func17, Try.ntmps17
  go_wp2
  go_loop [7, 8] (fun p q => ∃ i j : Nat, i ≤ j ∧ j ≤ l.length ∧ p = .int .i64 i ∧ q = .int .i64 j ∧ (∀ k, k < i → l.getD k 0 < x) ∧ (∀ k, j ≤ k → k < l.length → x ≤ l.getD k 0)) (fun p q => ((intOf q) - (intOf p)).toNat)
  case atStart => exact ⟨0, l.length, Nat.zero_le _, Nat.le_refl _, rfl, rfl, fun k hk => by omega, fun k hk hk2 => by omega⟩
  case round =>
    obtain ⟨i, j, hij, hj, rfl, rfl, hlo, hhi⟩ := hrel
    have HLO := Lib.hid hlo
    have HHI := Lib.hid hhi
    clear hlo hhi
    by_cases hlt : i < j
    · obtain ⟨a, rfl⟩ := hsome (by omega)
      have hh : (i + j) / 2 < l.length := by omega
      have c0 := hcell a rfl ((i + j) / 2) hh
      obtain ⟨v, hv⟩ : ∃ v, v = l.getD ((i + j) / 2) 0 := ⟨_, rfl⟩
      rw [← hv] at c0
      have HV := Lib.hid hv
      clear hv hcell hsome
      by_cases hvx : v < x
      · go_wp2_with (go_at_call 18; refine (less18 _ _ _).mono ?_; rintro e w' ⟨rfl, rfl⟩)
        go_round
        case rel =>
          refine ⟨(i + j) / 2 + 1, j, by omega, hj, by go_num, rfl, fun k hk => ?_, HHI.out⟩
          have h1 := hu.le (show k ≤ (i + j) / 2 by omega) hh
          have h2 := HV.out
          omega
        case measure => simp [intOf]; omega
      · go_wp2_with (go_at_call 18; refine (less18 _ _ _).mono ?_; rintro e w' ⟨rfl, rfl⟩)
        go_round
        case rel =>
          refine ⟨i, (i + j) / 2, by omega, by omega, rfl, by go_num, HLO.out, fun k hk hk2 => ?_⟩
          have h1 := hu.le hk hk2
          have h2 := HV.out
          omega
        case measure => simp [intOf]; omega
    · have hij2 : i = j := by omega
      subst hij2
      have hat : Hid (IsAt l x i) := Lib.hid ⟨hj, HLO.out, fun h => HHI.out i (Nat.le_refl _) h⟩
      by_cases hlt : i < l.length
      · obtain ⟨a, rfl⟩ := hsome (by omega)
        have c0 := hcell a rfl i hlt
        obtain ⟨v, hv⟩ : ∃ v, v = l.getD i 0 := ⟨_, rfl⟩
        rw [← hv] at c0
        clear hv hcell hsome
        by_cases hvx : v = x
        · subst hvx
          go_wp2
          go_ret2
          exact ⟨_, _, rfl, hat.out, rfl⟩
        · have hne : (v == x) = false := by simpa using hvx
          go_wp2_with (go_at_call 19; refine (isnan19 _ _).mono ?_; rintro e w' ⟨rfl, rfl⟩)
          go_ret2
          exact ⟨_, _, rfl, hat.out, rfl⟩
      · clear hcell hsome
        go_wp2
        go_ret2
        exact ⟨_, _, rfl, hat.out, rfl⟩

/-! ### the program's spans -/
structure SRep (w : World) (b : Nat) (v1 v2 : Value) (ends charges : List Int) : Prop where
  hb : w.heap[b]? = some (.cells #[v1, v2] 31 (0, 0))
  h1 : Own w 3 .i64 v1 ends
  h2 : Own w 32 .u64 v2 charges
  n1 : v1.ownBlock ≠ some b
  n2 : v2.ownBlock ≠ some b
  n3 : ∀ k, v1.ownBlock = some k → v2.ownBlock ≠ some k
  up : Up ends
  l1 : ends.length ≤ 17592186044415
  l2 : charges.length ≤ ends.length + 1
def Foot (b : Nat) (v1 v2 : Value) (k : Nat) : Prop := k = b ∨ v1.ownBlock = some k ∨ v2.ownBlock = some k
theorem SRep.chg {w w' : World} {b : Nat} {v1 v2 : Value} {ends charges : List Int} (h : SRep w b v1 v2 ends charges) {F : Nat → Prop} (hc : Chg F w w') (hF : ∀ k, Foot b v1 v2 k → ¬ F k) : SRep w' b v1 v2 ends charges :=
  ⟨(hc.block b (heap_lt h.hb) (hF b (Or.inl rfl))).trans h.hb, h.h1.chg hc (fun k hk => hF k (Or.inr (Or.inl hk))), h.h2.chg hc (fun k hk => hF k (Or.inr (Or.inr hk))), h.n1, h.n2, h.n3, h.up, h.l1, h.l2⟩
theorem SRep.c0 {w : World} {b : Nat} {v1 v2 : Value} {ends charges : List Int} (h : SRep w b v1 v2 ends charges) : w.cell? ⟨b, 0, none⟩ = some v1 := cell_of h.hb 0 rfl
theorem SRep.c1 {w : World} {b : Nat} {v1 v2 : Value} {ends charges : List Int} (h : SRep w b v1 v2 ends charges) : w.cell? ⟨b, 1, none⟩ = some v2 := cell_of h.hb 1 rfl
theorem SRep.lt {w : World} {b : Nat} {v1 v2 : Value} {ends charges : List Int} (h : SRep w b v1 v2 ends charges) {k : Nat} (hk : Foot b v1 v2 k) : k < w.heap.size := by
  rcases hk with rfl | hk | hk
  · exact heap_lt h.hb
  · exact h.h1.lt hk
  · exact h.h2.lt hk

theorem new_any (w : World) : Calls Try.prog 7 #[] w fun e w' => ∃ b, e = .returned (.pointer (some ⟨b, 0, none⟩)) ∧ SRep w' b (.slice none 0 0) (.slice none 0 0) [] [] ∧ w.heap.size ≤ b ∧ Chg (fun _ => False) w w' := by
  go_enter Try.func7, Try.ntmps7
  go_wp2
  go_ret
  refine ⟨w.heap.size, rfl, ⟨heap_alloc_at _ _, Own.nil _ _ _, Own.nil _ _ _, by simp [Value.ownBlock], by simp [Value.ownBlock], by simp [Value.ownBlock], fun i j _ hj => by simp at hj, by simp, by simp⟩, Nat.le_refl _, (Chg.refl _ _).alloc _⟩

theorem span_nil (x : Int) (w : World) : Calls Try.prog 13 #[.pointer none, .int .i64 x] w fun e w' => e = .returned (.int .i64 0) ∧ w = w' := by
  go_enter Try.func13, Try.ntmps13
  go_wp2
  go_ret
  exact ⟨rfl, rfl⟩
theorem len_nil (w : World) : Calls Try.prog 15 #[.pointer none] w fun e w' => e = .returned (.int .i64 0) ∧ w = w' := by
  go_enter Try.func15, Try.ntmps15
  go_wp2
  go_ret
  exact ⟨rfl, rfl⟩
theorem charged_nil (x : Int) (w : World) : Calls Try.prog 16 #[.pointer none, .int .i64 x] w fun e w' => e = .returned (.int .u64 0) ∧ w = w' := by
  go_enter Try.func16, Try.ntmps16
  go_wp2
  go_ret
  exact ⟨rfl, rfl⟩
theorem charge_nil (x y : Int) (w : World) : Calls Try.prog 9 #[.pointer none, .int .i64 x, .int .u64 y] w fun e w' => e = .returned (.tuple #[.int .u64 0, .int .i64 1]) ∧ w = w' := by
  go_enter Try.func9, Try.ntmps9
  go_wp2
  go_ret2
  exact ⟨rfl, rfl⟩
theorem end_nil (x : Int) (w : World) : Calls Try.prog 11 #[.pointer none, .int .i64 x] w fun e w' => e = .returned (.bool false) ∧ ∃ n, w' = w.drewN n := by
  go_enter Try.func11, Try.ntmps11
  go_wp2
  go_quiet (fail)
  go_wp2
  go_ret
  exact ⟨rfl, _, rfl⟩

theorem span_any (x : Int) (w : World) (b : Nat) (v1 v2 : Value) (ends charges : List Int) (h : SRep w b v1 v2 ends charges) :
    Calls Try.prog 13 #[.pointer (some ⟨b, 0, none⟩), .int .i64 x] w fun e w' => ∃ a : Nat, e = .returned (.int .i64 a) ∧ IsAt ends x a ∧ w = w' := by
  have c0 := h.c0
  obtain ⟨A, c, rfl, hr, _, _⟩ := h.h1.form
  have hbs := bs_any w A c ends x hr h.up (by have := h.l1; omega)
  clear hr h
  go_enter Try.func13, Try.ntmps13
  go_wp2_with (go_at_call 17; refine hbs.mono ?_; rintro e w' ⟨a, f, rfl, hat, rfl⟩)
  go_ret
  exact ⟨a, rfl, hat, rfl⟩
theorem len_any (w : World) (b : Nat) (v1 v2 : Value) (ends charges : List Int) (h : SRep w b v1 v2 ends charges) :
    Calls Try.prog 15 #[.pointer (some ⟨b, 0, none⟩)] w fun e w' => e = .returned (.int .i64 ((ends.length : Int) + 1)) ∧ w = w' := by
  have c0 := h.c0
  have l1 := h.l1
  obtain ⟨A, c, rfl, hr, _, _⟩ := h.h1.form
  clear hr h
  go_enter Try.func15, Try.ntmps15
  go_wp2
  go_ret
  exact ⟨rfl, rfl⟩
def SpanPost (ends : List Int) (x : Int) (w : World) (e : Ending) (w' : World) : Prop := ∃ a : Nat, e = .returned (.int .i64 a) ∧ IsAt ends x a ∧ w = w'
def chargedOf (charges : List Int) (k : Int) : Int := if k < 0 ∨ charges.length ≤ k then 0 else charges.getD k.toNat 0
theorem charged_any (k : Int) (w : World) (b : Nat) (v1 v2 : Value) (ends charges : List Int) (h : SRep w b v1 v2 ends charges) :
    Calls Try.prog 16 #[.pointer (some ⟨b, 0, none⟩), .int .i64 k] w fun e w' => e = .returned (.int .u64 (chargedOf charges k)) ∧ w = w' := by
  have c1 := h.c1
  have hcl := h.l2
  have hel := h.l1
  obtain ⟨A, c, rfl, hr, _, _⟩ := h.h2.form
  clear h
  by_cases h0 : k < 0
  · have e : chargedOf charges k = 0 := by simp [chargedOf, h0]
    rw [e]
    clear hr
    go_enter Try.func16, Try.ntmps16
    go_wp2
    go_ret
    exact ⟨rfl, rfl⟩
  · by_cases h1 : k < charges.length
    · have e : chargedOf charges k = charges.getD k.toNat 0 := by rw [chargedOf, if_neg (by omega)]
      rw [e]
      obtain ⟨a, rfl, hx⟩ := hr (by rintro rfl; simp at h1; omega)
      clear hx
      have hc := hr.mem k.toNat (by omega)
      obtain ⟨v, hv⟩ : ∃ v, v = charges.getD k.toNat 0 := ⟨_, rfl⟩
      rw [← hv] at hc ⊢
      have h2 : 0 ≤ k := by omega
      clear hv hr
      go_enter Try.func16, Try.ntmps16
      go_wp2
      go_ret
      exact ⟨rfl, rfl⟩
    · have e : chargedOf charges k = 0 := by rw [chargedOf, if_pos (by omega)]
      rw [e]
      clear hr
      go_enter Try.func16, Try.ntmps16
      go_wp2
      go_ret
      exact ⟨rfl, rfl⟩

/-! ### where an era lies -/
def posOf (l : List Int) (x : Int) : Nat := (l.takeWhile (fun y => decide (y < x))).length
theorem posOf_at : ∀ (l : List Int) (x : Int), IsAt l x (posOf l x)
  | [], x => ⟨by simp [posOf], fun j hj => by simp [posOf] at hj, fun h => by simp at h⟩
  | y :: l, x => by
    obtain ⟨h1, h2, h3⟩ := posOf_at l x
    by_cases hy : y < x
    · have e : posOf (y :: l) x = posOf l x + 1 := by simp [posOf, hy]
      rw [e]
      refine ⟨by simp; exact h1, fun j hj => ?_, fun h => ?_⟩
      · cases j with
        | zero => simpa using hy
        | succ j => simpa using h2 j (by omega)
      · simpa using h3 (by simpa using h)
    · have e : posOf (y :: l) x = 0 := by simp [posOf, hy]
      rw [e]
      exact ⟨by simp, fun j hj => by omega, fun _ => by simp; omega⟩
theorem isAt_unique {l : List Int} {x : Int} {a b : Nat} (ha : IsAt l x a) (hb : IsAt l x b) : a = b := by
  obtain ⟨a1, a2, a3⟩ := ha
  obtain ⟨b1, b2, b3⟩ := hb
  rcases Nat.lt_trichotomy a b with h | h | h
  · have := b2 a h; have := a3 (by omega); omega
  · exact h
  · have := a2 b h; have := b3 (by omega); omega
theorem posOf_le (l : List Int) (x : Int) : posOf l x ≤ l.length := (posOf_at l x).1
theorem span_c {w : World} {b : Nat} {v1 v2 : Value} {ends charges : List Int} (x : Int) (h : SRep w b v1 v2 ends charges) :
    Calls Try.prog 13 #[.pointer (some ⟨b, 0, none⟩), .int .i64 x] w fun e w' => e = .returned (.int .i64 (posOf ends x)) ∧ w = w' := by
  refine (span_any x w b v1 v2 ends charges h).mono ?_
  rintro e w' ⟨a, he, hat, hw⟩
  exact ⟨by rw [he, isAt_unique hat (posOf_at ends x)], hw⟩

/-! ### an era's span ends -/
def endB (ends : List Int) (era : Int) : Bool := decide (0 ≤ era ∧ era < 1073741824 ∧ posOf ends era = ends.length)
def EndPost (b : Nat) (v1 v2 : Value) (ends charges : List Int) (era : Int) (w : World) (e : Ending) (w' : World) : Prop :=
  ∃ v1', e = .returned (.bool (endB ends era)) ∧ SRep w' b v1' v2 (if endB ends era then ends ++ [era] else ends) charges ∧ Chg (Foot b v1 v2) w w' ∧ (∀ k, v1'.ownBlock = some k → v1.ownBlock = some k ∨ w.heap.size ≤ k)
theorem Up.snoc {l : List Int} {x : Int} (h : Up l) (hx : posOf l x = l.length) : Up (l ++ [x]) := by
  intro i j hij hj
  simp only [List.length_append, List.length_singleton] at hj
  have hat := posOf_at l x
  rw [hx] at hat
  simp only [List.getD_eq_getElem?_getD]
  by_cases hjl : j < l.length
  · rw [List.getElem?_append_left hjl, List.getElem?_append_left (by omega)]
    have := h i j hij hjl
    simpa [List.getD_eq_getElem?_getD] using this
  · have : j = l.length := by omega
    subst this
    rw [List.getElem?_append_left hij, List.getElem?_append_right (Nat.le_refl _)]
    have := hat.2.1 i hij
    simpa [List.getD_eq_getElem?_getD] using this

theorem end_any (era : Int) (w : World) (b : Nat) (v1 v2 : Value) (ends charges : List Int) (h : SRep w b v1 v2 ends charges) (hroom : ends.length < 1000000) :
    Calls Try.prog 11 #[.pointer (some ⟨b, 0, none⟩), .int .i64 era] w (EndPost b v1 v2 ends charges era w) := by
  have c0 := h.c0
  have hsp := span_c era h
  have stay : ∀ w', Chg (fun _ => False) w w' → endB ends era = false → EndPost b v1 v2 ends charges era w (.returned (.bool false)) w' := fun w' hc he => ⟨v1, by rw [he], by rw [he]; exact h.chg hc (fun _ _ => id), hc.mono (fun _ _ h => absurd h id), fun k hk => Or.inl hk⟩
  obtain ⟨A, c, hv1, hr, _, _⟩ := h.h1.form
  by_cases h0 : era < 0
  · have e : endB ends era = false := by simp [endB]; omega
    have fin := fun w' hc => stay w' hc e
    clear stay e hr hsp
    subst hv1
    go_enter Try.func11, Try.ntmps11
    go_wp2
    go_quiet (fail)
    go_wp2
    go_ret
    exact fin _ ((Chg.refl _ _).drewN _)
  · by_cases h1 : 1073741824 ≤ era
    · have e : endB ends era = false := by simp [endB]; omega
      have fin := fun w' hc => stay w' hc e
      clear stay e hr hsp
      subst hv1
      have hd : decide (era < 0) = false := by simpa using h0
      go_enter Try.func11, Try.ntmps11
      go_wp2
      go_quiet (fail)
      go_wp2
      go_ret
      exact fin _ ((Chg.refl _ _).drewN _)
    · by_cases h2 : posOf ends era < ends.length
      · have e : endB ends era = false := by simp [endB]; omega
        have fin := fun w' hc => stay w' hc e
        clear stay e hr
        have hd : SRep w.drew b v1 v2 ends charges := h.chg ((Chg.refl (fun _ => False) w).drew) (fun _ _ => id)
        have hspd := span_c era hd
        have c0d := hd.c0
        rw [hv1] at c0d c0
        have h2' : (posOf ends era : Int) < ends.length := by omega
        have he0 : decide (era < 0) = false := by simpa using h0
        have he1 : decide (1073741824 ≤ era) = false := by simpa using h1
        clear hd h
        subst hv1
        go_enter Try.func11, Try.ntmps11
        go_wp2
        go_region_held (fun w' => w'.cell? ⟨b, 0, none⟩ = some (.slice A ends.length c)) (first | exact c0d | go_keep) (first | (go_at_call 13; refine hspd.mono ?_; rintro e w' ⟨rfl, rfl⟩))
        all_goals
          go_wp2
          go_ret
          exact fin _ ((Chg.refl _ _).drew)
      · have hpe : posOf ends era = ends.length := by have := posOf_le ends era; omega
        have e : endB ends era = true := by simp [endB, hpe]; omega
        obtain ⟨i0, hi, hz0, hz1, hz2⟩ := info_parts info3
        have hd : SRep w.drew b v1 v2 ends charges := h.chg ((Chg.refl (fun _ => False) w).drew) (fun _ _ => id)
        have hspd := span_c era hd
        have c0d := hd.c0
        rw [hv1] at c0d c0
        have hown0 : w.drew.ownsRow 0 3 1 (.slice A ends.length c) ends.length (ends.map (Value.int .i64)) := by rw [← hv1]; exact hd.h1
        have behind : ∀ (v' : Value) (w2 : World), w2.ownsRow 0 3 1 v' (ends.length + 1) (ends.map (Value.int .i64) ++ [.int .i64 era]) → (w.drew.alloc (.cells #[.int .i64 era] 3)).grownBy w2 (Value.ownBlock (.slice A ends.length c)) → (v'.ownBlock = Value.ownBlock (.slice A ends.length c) ∨ v'.ownBlock = some (w.drew.alloc (.cells #[.int .i64 era] 3)).heap.size) →
            ∃ A' c', v' = .slice A' (ends.length + 1) c' ∧ w2.cell? ⟨b, 0, none⟩ = some (.slice A ends.length c) ∧ w2.frozen? ⟨b, 0, none⟩ = false ∧ EndPost b v1 v2 ends charges era w (.returned (.bool true)) (w2.setCell ⟨b, 0, none⟩ v') := by
          intro v' w2 ho hg hat
          rw [← hv1] at hg hat
          have hcg : Chg (Foot b v1 v2) w w2 := (((Chg.refl (Foot b v1 v2) w).drew).alloc _).grown hg (fun k hk _ => Or.inr (Or.inl hk))
          have hblk : w2.heap[b]? = some (.cells #[v1, v2] 31 (0, 0)) := by
            rw [hg.block b (by have := heap_lt h.hb; simp; omega) (fun e => h.n1 e.symm), Below.heap_alloc (w.drew) _ _ (heap_lt hd.hb)]
            exact h.hb
          have hb2 : ∀ k, v'.ownBlock = some k → v1.ownBlock = some k ∨ w.heap.size ≤ k := fun k hk => by
            rcases hat with hat | hat
            · exact Or.inl (hat ▸ hk)
            · rw [hat] at hk
              cases hk
              exact Or.inr (Nat.le_of_lt (by rw [World.size_alloc]; exact Nat.lt_succ_self _))
          have ho0 : Own w2 3 .i64 v' (ends ++ [era]) := Own.grown (xs := [era]) ho
          obtain ⟨A', c', hv', _, _, _⟩ := ho0.form
          rw [List.length_append, List.length_singleton] at hv'
          refine ⟨A', c', hv', by rw [← hv1]; exact cell_of hblk 0 rfl, frozen_of hblk 0, v', by rw [e], ?_, hcg.setCell (fun _ => Or.inl rfl) _, hb2⟩
          rw [e, if_pos rfl]
          have hbn : v'.ownBlock ≠ some b := fun hk => by
            rcases hb2 b hk with h1 | h1
            · exact h.n1 h1
            · have := heap_lt h.hb; omega
          have hset : Chg (fun k => k = b) w2 (w2.setCell ⟨b, 0, none⟩ v') := (Chg.refl (fun k => k = b) w2).setCell (fun _ => rfl) _
          have ho' : Own w2 3 .i64 v' (ends ++ [era]) := Own.grown (xs := [era]) ho
          have hoc : Own w2 32 .u64 v2 charges := (h.h2.chg ((((Chg.refl (fun _ => False) w).drew).alloc (.cells #[.int .i64 era] 3))) (fun _ _ => id)).chg (((Chg.refl (fun k => v1.ownBlock = some k) _)).grown hg (fun k hk _ => hk)) (fun k hk hk1 => h.n3 k hk1 hk)
          refine ⟨?_, ho'.chg hset (fun k hk e => hbn (e ▸ hk)), hoc.chg hset (fun k hk e => h.n2 (e ▸ hk)), hbn, h.n2, fun k hk hk2 => ?_, h.up.snoc hpe, by simp; omega, by have := h.l2; simp; omega⟩
          · rw [heap_setCell hblk]
            rfl
          · rcases hb2 k hk with h1 | h1
            · exact h.n3 k h1 hk2
            · have := h.h2.lt hk2; omega
        have hpe' : ¬ (posOf ends era : Int) < ends.length := by omega
        have hroomB := Lib.hid hroom
        have he0 : decide (era < 0) = false := by simpa using h0
        have he1 : decide (1073741824 ≤ era) = false := by simpa using h1
        have hmax : ends.length + 1 ≤ maxLen := by unfold maxLen; omega
        have hby : (ends.length + 1) * 8 ≤ 140737488355328 := by omega
        clear stay e hr hsp hd h hpe hroom
        subst hv1
        go_enter Try.func11, Try.ntmps11
        go_wp2
        go_region_held (fun w' => w'.cell? ⟨b, 0, none⟩ = some (.slice A ends.length c)) (first | exact c0d | go_keep) (first | (go_at_call 13; refine hspd.mono ?_; rintro e w' ⟨rfl, rfl⟩))
        all_goals
          go_wp2_with (at_builtin; refine wpList_append_own_at _ rfl _ _ 28 rfl 0 3 i0 (.int .i64 0) 1 8 Try.underlying28 hi hz0 hz1 hz2 rfl (by decide) _ _ _ rfl (hown0.alloc _) ⟨w.drew.heap.size, 0, none⟩ 1 1 [.int .i64 era] rfl rfl (cell_one_new _ _ _) (ints_oneCell .i64 [era]) hmax hby (by simp) ?_; intro v' w2 ho hg hnil hat; obtain ⟨A', c', hv', f0, f1, fin⟩ := behind v' w2 ho hg hat; clear ho hg hat hnil behind; rw [hv'] at fin ⊢)
          go_ret
          exact fin
end Go.Proofs.Ytpbiilndmcnnfaa
