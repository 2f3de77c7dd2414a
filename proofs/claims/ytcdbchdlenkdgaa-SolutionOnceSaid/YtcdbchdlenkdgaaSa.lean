/- Solutions: whether one is formed (the program's, the document's). -/
import Derived.Test.YtcdbchdlenkdgaaSp
import Derived.Test.YtcdbchdlenkdgaaCe
import Derived.Deep.Cut
set_option linter.unusedVariables false
set_option linter.unusedSimpArgs false
namespace Go.Proofs.Ytcdbchdlenkdgaa
open Go.RowKit Go.Ps

def sv (x : Sol) (A : Option Addr) (c : Nat) (B : Option Addr) (d : Nat) : Value := .agg #[.slice A x.com.length c, .slice B x.edges.length d, .int .u64 x.mn, .int .u64 x.sm, .int .u64 x.hi, .int .u64 x.lo]
def w31 (n : Int) : Bool := decide (0 ≤ n ∧ n ≤ 2147483647)
theorem id_any (n : Int) (w : World) : Calls Try.prog 47 #[.int .i64 n] w fun e w' => e = .returned (.bool (w31 n)) ∧ w = w' := by
  by_cases h0 : n < 0
  · have e : w31 n = false := decide_eq_false (by omega)
    rw [e]
    go_enter Try.func47, Try.ntmps47
    go_wp2
    go_ret
    exact ⟨rfl, rfl⟩
  · by_cases h1 : n ≤ 2147483647
    · have e : w31 n = true := decide_eq_true (by omega)
      rw [e]
      go_enter Try.func47, Try.ntmps47
      go_wp2
      go_ret
      exact ⟨rfl, rfl⟩
    · have e : w31 n = false := decide_eq_false (by omega)
      rw [e]
      go_enter Try.func47, Try.ntmps47
      go_wp2
      go_ret
      exact ⟨rfl, rfl⟩
theorem within_any (n : Int) (w : World) : Calls Try.prog 48 #[.int .i64 n] w fun e w' => e = .returned (.bool (w31 n)) ∧ w = w' := by
  by_cases h0 : n < 0
  · have e : w31 n = false := decide_eq_false (by omega)
    rw [e]
    go_enter Try.func48, Try.ntmps48
    go_wp2
    go_ret
    exact ⟨rfl, rfl⟩
  · by_cases h1 : n ≤ 2147483647
    · have e : w31 n = true := decide_eq_true (by omega)
      rw [e]
      go_enter Try.func48, Try.ntmps48
      go_wp2
      go_ret
      exact ⟨rfl, rfl⟩
    · have e : w31 n = false := decide_eq_false (by omega)
      rw [e]
      go_enter Try.func48, Try.ntmps48
      go_wp2
      go_ret
      exact ⟨rfl, rfl⟩
theorem _root_.Go.Ps.Reads3.chg {w w' : World} {q0 q1 q2 : IntKind} {A : Option Addr} {l : List (Int × Int × Int)} (h : Reads3 w q0 q1 q2 A l) {F : Nat → Prop} (hc : Chg F w w') (hF : ∀ a, A = some a → ¬ F a.block) : Reads3 w' q0 q1 q2 A l := by
  intro hne
  obtain ⟨b, off, hA, hlt, hx⟩ := h hne
  have hf := hF _ hA
  refine ⟨b, off, hA, Nat.lt_of_lt_of_le hlt hc.size, fun i hi => ?_⟩
  obtain ⟨c0, c1, c2⟩ := hx i hi
  exact ⟨chg_cell hc c0 hf, chg_cell hc c1 hf, chg_cell hc c2 hf⟩
theorem _root_.Go.Ps.Reads3.plain {w : World} {q0 q1 q2 : IntKind} {A : Option Addr} {l : List (Int × Int × Int)} (h : Reads3 w q0 q1 q2 A l) (hne : 0 < l.length) : ∃ b o, A = some ⟨b, o, none⟩ ∧ ∀ i, i < l.length →
    w.cell? ⟨b, o + i * 3, none⟩ = some (.int q0 (l.getD i d3).1) ∧ w.cell? ⟨b, o + i * 3 + 1, none⟩ = some (.int q1 (l.getD i d3).2.1) ∧ w.cell? ⟨b, o + i * 3 + 2, none⟩ = some (.int q2 (l.getD i d3).2.2) := by
  obtain ⟨b, o, h1, _, h2⟩ := h (by rintro rfl; simp at hne)
  exact ⟨b, o, h1, h2⟩
theorem read6 {w : World} {g : Nat} {c0 c1 c2 c3 c4 c5 : Value} {t : TypeId} (h : w.heap[g]? = some (.cells #[c0, c1, c2, c3, c4, c5] t (0, 0))) :
    w.cell? ⟨g, 0, none⟩ = some c0 ∧ w.cell? ⟨g, 1, none⟩ = some c1 ∧ w.cell? ⟨g, 2, none⟩ = some c2 ∧ w.cell? ⟨g, 3, none⟩ = some c3 ∧ w.cell? ⟨g, 4, none⟩ = some c4 ∧ w.cell? ⟨g, 5, none⟩ = some c5 :=
  ⟨cell_of h 0 rfl, cell_of h 1 rfl, cell_of h 2 rfl, cell_of h 3 rfl, cell_of h 4 rfl, cell_of h 5 rfl⟩
def objS (VA VB : Value) (x : Sol) (t : TypeId) : Obj := .cells #[VA, VB, .int .u64 x.mn, .int .u64 x.sm, .int .u64 x.hi, .int .u64 x.lo] t (0, 0)
theorem comAt_iff (l : List Int) (k : Nat) : comAt l k = true ↔ w31 (l.getD k 0) = true ∧ (0 < k → l.getD (k - 1) 0 < l.getD k 0) := by
  unfold comAt w31
  simp only [decide_eq_true_eq]
  constructor
  · rintro ⟨a, b, c⟩; exact ⟨⟨a, b⟩, c⟩
  · rintro ⟨⟨a, b⟩, c⟩; exact ⟨a, b, c⟩
theorem comAt_no {l : List Int} {k : Nat} (h : ¬ (w31 (l.getD k 0) = true ∧ (0 < k → l.getD (k - 1) 0 < l.getD k 0))) : comAt l k = false := by
  cases hc : comAt l k with
  | false => rfl
  | true => exact absurd ((comAt_iff l k).1 hc) h
theorem edgeAt_iff (l : List (Int × Int × Int)) (k : Nat) : edgeAt l k = true ↔ w31 (l.getD k d3).1 = true ∧ w31 (l.getD k d3).2.1 = true ∧ (l.getD k d3).2.2 ≠ 0 ∧ (0 < k → (l.getD (k - 1) d3).1 < (l.getD k d3).1 ∨ (l.getD (k - 1) d3).1 = (l.getD k d3).1 ∧ (l.getD (k - 1) d3).2.1 < (l.getD k d3).2.1) := by
  unfold edgeAt w31
  simp only [decide_eq_true_eq]
  constructor
  · rintro ⟨a, b, c, d, e, f⟩; exact ⟨⟨a, b⟩, ⟨c, d⟩, e, f⟩
  · rintro ⟨⟨a, b⟩, ⟨c, d⟩, e, f⟩; exact ⟨a, b, c, d, e, f⟩
theorem edgeAt_no {l : List (Int × Int × Int)} {k : Nat} (h : ¬ (w31 (l.getD k d3).1 = true ∧ w31 (l.getD k d3).2.1 = true ∧ (l.getD k d3).2.2 ≠ 0 ∧ (0 < k → (l.getD (k - 1) d3).1 < (l.getD k d3).1 ∨ (l.getD (k - 1) d3).1 = (l.getD k d3).1 ∧ (l.getD (k - 1) d3).2.1 < (l.getD k d3).2.1))) : edgeAt l k = false := by
  cases hc : edgeAt l k with
  | false => rfl
  | true => exact absurd ((edgeAt_iff l k).1 hc) h
set_option maxHeartbeats 4000000 in
theorem sformed_any (x : Sol) (A : Option Addr) (c : Nat) (B : Option Addr) (d : Nat) (w : World) (hA : ReadsI w .i64 A x.com) (hB : Reads3 w .i64 .i64 .u64 B x.edges) : Calls Try.prog 31 #[sv x A c B d] w (BoolPost (formedS x) w) := by
  have hnot := fun h => formedS_not (x := x) h
  have hyes := (formedS_iff x).2
  obtain ⟨com, edges, mn, sm, hi, lo⟩ := x
  unfold sv
  simp only at *
  obtain ⟨F, hF⟩ : ∃ F, F = formedS ⟨com, edges, mn, sm, hi, lo⟩ := ⟨_, rfl⟩
  rw [← hF] at hnot hyes ⊢
  clear hF
  by_cases h8 : 8 < com.length
  · have e := hnot (.inr (.inr (.inl h8)))
    subst e
    clear hnot hyes
    go_enter Try.func31, Try.ntmps31
    go_wp2
    go_ret
    exact ⟨rfl, (Chg.refl _ _).alloc _⟩
  by_cases h256 : 256 < edges.length
  · have e := hnot (.inr (.inr (.inr h256)))
    subst e
    clear hnot hyes
    go_enter Try.func31, Try.ntmps31
    go_wp2
    go_ret
    exact ⟨rfl, (Chg.refl _ _).alloc _⟩
  obtain ⟨w1, hw1⟩ : ∃ w1, w1 = w.alloc (.cells #[.slice A com.length c, .slice B edges.length d, .int .u64 mn, .int .u64 sm, .int .u64 hi, .int .u64 lo] 49) := ⟨_, rfl⟩
  have hC1 : Chg (fun _ => False) w w1 := by rw [hw1]; exact (Chg.refl _ _).alloc _
  have hg1 : w1.heap[w.heap.size]? = some (.cells #[.slice A com.length c, .slice B edges.length d, .int .u64 mn, .int .u64 sm, .int .u64 hi, .int .u64 lo] 49) := by rw [hw1]; exact heap_alloc_at _ _
  have hA1 := hA.chg hC1 (fun _ _ => id)
  have hB1 := hB.chg hC1 (fun _ _ => id)
  obtain ⟨g, hg⟩ : ∃ g, g = w.heap.size := ⟨_, rfl⟩
  rw [← hg] at hg1
  obtain ⟨c0, c1, c2, c3, c4, c5⟩ := read6 hg1
  have HNOT := Lib.hid hnot
  have HYES := Lib.hid hyes
  have HW := Lib.hid hw1
  have HC1 := Lib.hid hC1
  have HG := Lib.hid hg1
  have HA := Lib.hid hA1
  have HB := Lib.hid hB1
  have HGE := Lib.hid hg
  clear hnot hyes hw1 hC1 hg1 hA hB hA1 hB1 hg
  go_enter Try.func31, Try.ntmps31
  go_upto_region 1 with (fail)
  rw [← HW.out, ← HGE.out]
  clear HW HGE
  go_wp2
  go_loop [21] (fun i => ∃ k : Nat, k ≤ com.length ∧ i = .int .i64 k ∧ Hid (∀ j, j < k → comAt com j = true)) (fun i => com.length - (intOf i).toNat)
  case atStart => exact ⟨0, by omega, rfl, Lib.hid (fun j hj => by omega)⟩
  case round =>
    obtain ⟨k, hk, rfl, hall⟩ := hrel
    by_cases hk2 : k < com.length
    · obtain ⟨ga, oa, rfl, hx⟩ := HA.out.plain (by rintro rfl; simp at hk2)
      have p1 := hx k hk2
      have hcom := comAt_iff com k
      have hno := comAt_no (l := com) (k := k)
      have hst : comAt com k = true → ∀ j, j < k + 1 → comAt com j = true := fun h j hj => by
        by_cases e : j = k
        · subst e; exact h
        · exact hall.out j (by omega)
      have hF : comAt com k = false → F = false := fun h => HNOT.out (.inl ⟨k, hk2, h⟩)
      by_cases hz : k = 0
      · subst hz
        obtain ⟨p, hp⟩ : ∃ p, p = com.getD 0 0 := ⟨_, rfl⟩
        rw [← hp] at p1 hcom hno
        rw [Nat.add_zero] at p1
        cases hw : w31 p with
        | false =>
          have e := hF (hno (by rw [hw]; simp))
          subst e
          have H47 := id_any p
          rw [hw] at H47
          clear hno hst hF hcom hp hx hall hw
          go_wp2_with (go_at_call 47; refine (H47 _).mono ?_; rintro e w' ⟨rfl, rfl⟩)
          go_ret
          exact ⟨rfl, HC1.out⟩
        | true =>
          have HST := Lib.hid (hst (hcom.2 ⟨hw, by simp⟩))
          have H47 := id_any p
          rw [hw] at H47
          clear hno hst hF hcom hp hx hall hw
          go_wp2_with (go_at_call 47; refine (H47 _).mono ?_; rintro e w' ⟨rfl, rfl⟩)
          go_round
          case rel => exact ⟨1, by omega, by go_num, HST⟩
          case measure => simp [intOf]; omega
      · have p2 := hx (k - 1) (by omega)
        obtain ⟨p, hp⟩ : ∃ p, p = com.getD k 0 := ⟨_, rfl⟩
        obtain ⟨q, hq⟩ : ∃ q, q = com.getD (k - 1) 0 := ⟨_, rfl⟩
        rw [← hp] at p1 hcom hno
        rw [← hq] at p2 hcom hno
        have hkp : 0 < k := by omega
        cases hw : w31 p with
        | false =>
          have e := hF (hno (by rw [hw]; simp))
          subst e
          have H47 := id_any p
          rw [hw] at H47
          clear hno hst hF hcom hp hx hall hw hq p2 hz
          go_wp2_with (go_at_call 47; refine (H47 _).mono ?_; rintro e w' ⟨rfl, rfl⟩)
          go_ret
          exact ⟨rfl, HC1.out⟩
        | true =>
          have H47 := id_any p
          rw [hw] at H47
          by_cases hlt : q < p
          · have HST := Lib.hid (hst (hcom.2 ⟨hw, fun _ => hlt⟩))
            clear hno hst hF hcom hp hx hall hw hq hz
            go_wp2_with (go_at_call 47; refine (H47 _).mono ?_; rintro e w' ⟨rfl, rfl⟩)
            go_round
            case rel => exact ⟨k + 1, by omega, by go_num, HST⟩
            case measure => simp [intOf]; omega
          · have e := hF (hno (fun h => hlt (h.2 hkp)))
            subst e
            clear hno hst hF hcom hp hx hall hw hq hz
            go_wp2_with (go_at_call 47; refine (H47 _).mono ?_; rintro e w' ⟨rfl, rfl⟩)
            go_ret
            exact ⟨rfl, HC1.out⟩
    · obtain rfl : k = com.length := by omega
      have HCOM := hall
      clear hall
      go_wp2
      go_loopw [47] (fun i wr => ∃ k : Nat, k ≤ edges.length ∧ i = .int .i64 k ∧ Hid (∀ j, j < k → edgeAt edges j = true) ∧ Hid (Chg (fun _ => False) w1 wr)) (fun i _ => edges.length - (intOf i).toNat)
      case atStart => exact ⟨0, by omega, rfl, Lib.hid (fun j hj => by omega), Lib.hid (Chg.refl _ _)⟩
      case round =>
        obtain ⟨k, hk, rfl, hall, hcr⟩ := hrel
        have hCr : Chg (fun _ => False) w wr := chg_trans HC1.out hcr.out
        have HCR := Lib.hid hCr
        obtain ⟨x0, x1, x2, x3, x4, x5⟩ := read6 (chg_heap hcr.out HG.out)
        have hgl := heap_lt (chg_heap hcr.out HG.out)
        clear hCr c0 c1 c2 c3 c4 c5
        by_cases hk2 : k < edges.length
        · obtain ⟨gb, ob, rfl, hx⟩ := (HB.out.chg hcr.out (fun _ _ => id)).plain (by omega)
          obtain ⟨e1, e2, e3⟩ := hx k hk2
          have hbl := World.block_lt_of_cell? wr _ e1
          simp only at hbl
          have hed := edgeAt_iff edges k
          have hno := edgeAt_no (l := edges) (k := k)
          have hst : edgeAt edges k = true → ∀ j, j < k + 1 → edgeAt edges j = true := fun h j hj => by
            by_cases e : j = k
            · subst e; exact h
            · exact hall.out j (by omega)
          have hF : edgeAt edges k = false → F = false := fun h => HNOT.out (.inr (.inl ⟨k, hk2, h⟩))
          obtain ⟨⟨v, c', u⟩, hp⟩ : ∃ p, p = edges.getD k d3 := ⟨_, rfl⟩
          rw [← hp] at e1 e2 e3 hed hno
          simp only at e1 e2 e3 hed hno
          have H47 := id_any v
          have H47b := id_any c'
          cases hw : w31 v with
          | false =>
            have e := hF (hno (by rw [hw]; simp))
            subst e
            rw [hw] at H47
            clear hno hst hF hed hp hx hall hw
            go_wp2_with (go_at_call 47; refine (H47 _).mono ?_; rintro e w' ⟨rfl, rfl⟩)
            go_ret
            exact ⟨rfl, HCR.out.alloc _⟩
          | true =>
            rw [hw] at H47
            cases hw2 : w31 c' with
            | false =>
              have e := hF (hno (by rw [hw2]; simp))
              subst e
              rw [hw2] at H47b
              clear hno hst hF hed hp hx hall hw hw2
              go_wp2_with (go_at_call 47; first | (refine (H47 _).mono ?_; rintro e w' ⟨rfl, rfl⟩) | (refine (H47b _).mono ?_; rintro e w' ⟨rfl, rfl⟩))
              go_ret
              exact ⟨rfl, HCR.out.alloc _⟩
            | true =>
              rw [hw2] at H47b
              by_cases hu : u = 0
              · subst hu
                have e := hF (hno (by simp))
                subst e
                clear hno hst hF hed hp hx hall hw hw2
                go_wp2_with (go_at_call 47; first | (refine (H47 _).mono ?_; rintro e w' ⟨rfl, rfl⟩) | (refine (H47b _).mono ?_; rintro e w' ⟨rfl, rfl⟩))
                go_ret
                exact ⟨rfl, by first | exact HCR.out.alloc _ | exact (HCR.out.alloc _).alloc _⟩
              have hub : (u == 0) = false := by simpa using hu
              by_cases hz : k = 0
              · have HST := Lib.hid (hst (hed.2 ⟨hw, hw2, hu, fun h => absurd h (by omega)⟩))
                subst hz
                simp only [Nat.zero_mul, Nat.add_zero] at e1 e2 e3
                clear hno hst hF hed hp hx hall hw hw2 hu
                go_wp2_with (go_at_call 47; first | (refine (H47 _).mono ?_; rintro e w' ⟨rfl, rfl⟩) | (refine (H47b _).mono ?_; rintro e w' ⟨rfl, rfl⟩))
                go_roundw
                case rel => exact ⟨1, by omega, by go_num, HST, Lib.hid (by first | exact hcr.out.alloc _ | exact (hcr.out.alloc _).alloc _)⟩
                case measure => simp [intOf]; omega
              obtain ⟨f1, f2, f3⟩ := hx (k - 1) (by omega)
              obtain ⟨⟨pv, pc, pu⟩, hq⟩ : ∃ p, p = edges.getD (k - 1) d3 := ⟨_, rfl⟩
              rw [← hq] at f1 f2 f3 hed hno
              simp only at f1 f2 f3 hed hno
              have hkp : 0 < k := by omega
              by_cases hgt : v < pv
              · have e := hF (hno (fun h => by have := h.2.2.2 hkp; omega))
                subst e
                clear hno hst hF hed hp hx hall hw hw2 hq hu
                go_wp2_with (go_at_call 47; first | (refine (H47 _).mono ?_; rintro e w' ⟨rfl, rfl⟩) | (refine (H47b _).mono ?_; rintro e w' ⟨rfl, rfl⟩))
                go_ret
                exact ⟨rfl, by first | exact HCR.out.alloc _ | exact (HCR.out.alloc _).alloc _⟩
              by_cases heq : pv = v
              · subst heq
                by_cases hlt : pc < c'
                · have HST := Lib.hid (hst (hed.2 ⟨hw, hw2, hu, fun _ => .inr ⟨rfl, hlt⟩⟩))
                  clear hno hst hF hed hp hx hall hw hw2 hq hu
                  go_wp2_with (go_at_call 47; first | (refine (H47 _).mono ?_; rintro e w' ⟨rfl, rfl⟩) | (refine (H47b _).mono ?_; rintro e w' ⟨rfl, rfl⟩))
                  go_roundw
                  case rel => exact ⟨k + 1, by omega, by go_num, HST, Lib.hid (by first | exact hcr.out.alloc _ | exact (hcr.out.alloc _).alloc _)⟩
                  case measure => simp [intOf]; omega
                · have e := hF (hno (fun h => by have := h.2.2.2 hkp; omega))
                  subst e
                  clear hno hst hF hed hp hx hall hw hw2 hq hu
                  go_wp2_with (go_at_call 47; first | (refine (H47 _).mono ?_; rintro e w' ⟨rfl, rfl⟩) | (refine (H47b _).mono ?_; rintro e w' ⟨rfl, rfl⟩))
                  go_ret
                  exact ⟨rfl, by first | exact HCR.out.alloc _ | exact (HCR.out.alloc _).alloc _⟩
              · have hlt : pv < v := by omega
                have HST := Lib.hid (hst (hed.2 ⟨hw, hw2, hu, fun _ => .inl hlt⟩))
                have heb : (pv == v) = false := by simpa using heq
                clear hno hst hF hed hp hx hall hw hw2 hq hu heq
                go_wp2_with (go_at_call 47; first | (refine (H47 _).mono ?_; rintro e w' ⟨rfl, rfl⟩) | (refine (H47b _).mono ?_; rintro e w' ⟨rfl, rfl⟩))
                go_roundw
                case rel => exact ⟨k + 1, by omega, by go_num, HST, Lib.hid (by first | exact hcr.out.alloc _ | exact (hcr.out.alloc _).alloc _)⟩
                case measure => simp [intOf]; omega
        · obtain rfl : k = edges.length := by omega
          have e := HYES.out ⟨by omega, by omega, HCOM.out, hall.out⟩
          subst e
          clear hall
          go_wp2
          go_ret
          exact ⟨rfl, HCR.out⟩
end Go.Proofs.Ytcdbchdlenkdgaa
