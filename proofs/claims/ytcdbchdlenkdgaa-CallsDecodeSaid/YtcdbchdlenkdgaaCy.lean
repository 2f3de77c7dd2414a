/- Calls: what the reference's Decode computes, and that it is the same. -/
import Derived.Test.YtcdbchdlenkdgaaCt
import Derived.Test.YtcdbchdlenkdgaaL8
set_option linter.unusedVariables false
set_option linter.unusedSimpArgs false
namespace Go.Proofs.Ytcdbchdlenkdgaa
open Go.RowKit Go.Ps

theorem tks_ok {l : List Int} (hb : Bytes l) : ∀ (n i : Nat) (acc : List Int), i ≤ l.length → (tks l n i acc).2.2 = 0 → ∃ m : List Int, ∃ j : Nat, (tks l n i acc).1 = acc ++ m ∧ m.length = n ∧ (∀ x ∈ m, U64' x) ∧ (tks l n i acc).2.1 = j ∧ l.drop i = encs m ++ l.drop j ∧ j ≤ l.length
  | 0, i, acc, hi, _ => ⟨[], i, by simp [tks], rfl, by simp, by simp [tks], by simp [encs], hi⟩
  | n + 1, i, acc, hi, h => by
    rw [tks_step] at h ⊢
    by_cases he : (tk (l.drop i)).2.2 = 0
    · rw [if_pos he] at h ⊢
      rcases tk_facts (hb.drop i) with h1 | h1
      · obtain ⟨_, hu, hk1, hk2, hk3, hen⟩ := h1
        rw [List.length_drop] at hk3
        obtain ⟨K, hK⟩ : ∃ K : Nat, (tk (l.drop i)).2.1 = K := ⟨(tk (l.drop i)).2.1.toNat, by omega⟩
        rw [hK, Int.toNat_natCast] at h hen ⊢
        rw [hK] at hk3
        obtain ⟨m, j, e1, e2, e3, e4, e5, e6⟩ := tks_ok hb n (i + K) _ (by omega) h
        refine ⟨(tk (l.drop i)).1 :: m, j, by rw [e1]; simp, by simp [e2], by simpa using ⟨hu, e3⟩, e4, ?_, e6⟩
        rw [encs, List.append_assoc, ← e5, hen, ← List.drop_drop, List.take_append_drop]
      · omega
    · rw [if_neg he] at h
      exact absurd h he
theorem tkl_ok {l : List Int} (hb : Bytes l) {most : Int} (h : (tkl l most).2.2 = 0) : ∃ j : Nat, (tkl l most).2.1 = j ∧ l = encL (tkl l most).1 ++ l.drop j ∧ (∀ x ∈ (tkl l most).1, U64' x) ∧ ((tkl l most).1.length : Int) ≤ most ∧ j ≤ l.length := by
  unfold tkl at h ⊢
  by_cases he : (tk l).2.2 = 0
  · rw [if_pos he] at h ⊢
    by_cases hm : most < 0 ∨ most < (tk l).1
    · rw [if_pos hm] at h; simp at h
    · rw [if_neg hm] at h ⊢
      rcases tk_facts hb with h1 | h1
      · obtain ⟨_, hu, hk1, hk2, hk3, hen⟩ := h1
        obtain ⟨K, hK⟩ : ∃ K : Nat, (tk l).2.1 = K := ⟨(tk l).2.1.toNat, by omega⟩
        rw [hK, Int.toNat_natCast] at h hen ⊢
        obtain ⟨m, j, e1, e2, e3, e4, e5, e6⟩ := tks_ok hb _ K [] (by omega) h
        have hu0 := hu.1
        rw [List.nil_append] at e1
        refine ⟨j, e4, ?_, by rw [e1]; exact e3, by rw [e1, e2]; omega, e6⟩
        rw [e1]
        unfold encL
        have hml : (m.length : Int) = (tk l).1 := by rw [e2]; omega
        rw [hml, hen, List.append_assoc, ← e5, List.take_append_drop]
      · omega
  · rw [if_neg he] at h
    exact absurd h he
theorem three0 (l : List Int) (k : Nat) (h : l.length = k) (hk : k ≤ 3) : ∀ n ∈ [l.getD 0 0, l.getD 1 0, l.getD 2 0].drop k, n = 0 := by
  match l, h with
  | [], h => subst h; simp
  | [x], h => subst h; simp
  | [x, y], h => subst h; simp
  | [x, y, z], h => subst h; simp
  | x :: y :: z :: t :: r, h => simp at h; omega
def fin7 (x : C7) (rest : List Int) : C7 × Int := if 0 < rest.length then (c7zero, 2) else (x, 0)
/-- What the reference's Decode computes. -/
def rdec (l : List Int) : C7 × Int :=
  let q := rnums mostU 2 (l, false)
  let k := q.1.getD 0 0
  let u := q.1.getD 1 0
  if q.2.2 = true ∨ 16 < k ∨ 2147483647 < u ∨ k < 1 then (c7zero, 2) else
  let p := rnums mostU (nums k) q.2
  if p.2.2 = true then (c7zero, 2) else
  if k = 6 then (if (tkl p.2.1 8).2.2 = 0 then fin7 ⟨k, u, p.1.getD 0 0, p.1.getD 1 0, p.1.getD 2 0, (tkl p.2.1 8).1, []⟩ (p.2.1.drop (tkl p.2.1 8).2.1.toNat) else (c7zero, 2)) else
  if k = 10 then (if (tk p.2.1).2.2 = 0 ∧ (tk p.2.1).1 ≤ 20000 ∧ (tk p.2.1).1 ≤ (p.2.1.length : Int) - (tk p.2.1).2.1 then fin7 ⟨k, u, p.1.getD 0 0, p.1.getD 1 0, p.1.getD 2 0, [], (p.2.1.drop (tk p.2.1).2.1.toNat).take (tk p.2.1).1.toNat⟩ ((p.2.1.drop (tk p.2.1).2.1.toNat).drop (tk p.2.1).1.toNat) else (c7zero, 2)) else
  fin7 ⟨k, u, p.1.getD 0 0, p.1.getD 1 0, p.1.getD 2 0, [], []⟩ p.2.1
theorem fin7_ok {x y : C7} {r : List Int} (h : fin7 x r = (y, 0)) : r = [] ∧ x = y := by
  unfold fin7 at h
  split at h
  · simp at h
  · rename_i h0
    simp at h
    exact ⟨List.eq_nil_of_length_eq_zero (by omega), h⟩
theorem fin7_nil (x : C7) : fin7 x [] = (x, 0) := rfl
theorem fin7_err (x : C7) (r : List Int) : (fin7 x r).2 = 0 ∨ fin7 x r = (c7zero, 2) := by
  unfold fin7
  split
  · exact .inr rfl
  · exact .inl rfl
theorem rdec_err (l : List Int) : (rdec l).2 = 0 ∨ rdec l = (c7zero, 2) := by
  unfold rdec
  simp only
  repeat' split
  all_goals first | exact .inr rfl | exact fin7_err _ _
theorem rdec_enc {x : C7} (hk : x.ok) (hf : formedC x = true) : rdec (encC x) = (x, 0) := by
  obtain ⟨kind, who, a, b, c, list, bytes⟩ := x
  simp only [formedC, decide_eq_true_eq] at hf
  obtain ⟨f1, f2, f3, f4, f5, f6, f7⟩ := hf
  obtain ⟨_, _, h3, h4, h5, h6, h7⟩ := hk
  simp only at *
  have hkind : U64' kind := ⟨by omega, by omega⟩
  have hwho : U64' who := ⟨by omega, by omega⟩
  have hq := rnums_enc (m := mostU) (by decide) [kind, who] (encs ([a, b, c].take (nums kind)) ++ encT ⟨kind, who, a, b, c, list, bytes⟩) (by intro n hn; simp at hn; rcases hn with rfl | rfl <;> assumption)
  have he : encs [kind, who] ++ (encs ([a, b, c].take (nums kind)) ++ encT ⟨kind, who, a, b, c, list, bytes⟩) = encC ⟨kind, who, a, b, c, list, bytes⟩ := by
    unfold encC
    simp [encs]
  rw [he] at hq
  have hn3 := nums_le kind
  have hlen : ([a, b, c].take (nums kind)).length = nums kind := by rw [List.length_take]; simp; omega
  have hnums := rnums_enc (m := mostU) (by decide) ([a, b, c].take (nums kind)) (encT ⟨kind, who, a, b, c, list, bytes⟩) (by
    intro n hn
    have := List.mem_of_mem_take hn
    simp only [List.mem_cons, List.not_mem_nil, or_false] at this
    rcases this with rfl | rfl | rfl <;> assumption)
  rw [hlen] at hnums
  have habc : ([a, b, c].take (nums kind)).getD 0 0 = a ∧ ([a, b, c].take (nums kind)).getD 1 0 = b ∧ ([a, b, c].take (nums kind)).getD 2 0 = c := by
    have : nums kind = 0 ∨ nums kind = 1 ∨ nums kind = 2 ∨ nums kind = 3 := by omega
    rcases this with e | e | e | e <;> rw [e] at f5 ⊢ <;> simp at f5 ⊢ <;> omega
  have hq2 : rnums mostU 2 (encC ⟨kind, who, a, b, c, list, bytes⟩, false) = ([kind, who], (encs ([a, b, c].take (nums kind)) ++ encT ⟨kind, who, a, b, c, list, bytes⟩, false)) := hq
  unfold rdec
  rw [hq2]
  simp only [List.getD_cons_zero, List.getD_cons_succ]
  rw [if_neg (by simp; omega), hnums]
  simp only
  rw [if_neg (by simp), habc.1, habc.2.1, habc.2.2]
  unfold encT
  by_cases k6 : kind = 6
  · subst k6
    simp only [if_pos] at f6 f7 ⊢
    have hb0 : bytes = [] := List.eq_nil_of_length_eq_zero (by simpa using f7)
    subst hb0
    have ht := tkl_encL list 8 h6 (by omega)
    rw [if_neg (show ¬ ((8 : Int) < list.length) by omega)] at ht
    rw [ht]
    simp only [if_pos, Int.toNat_natCast, List.drop_length, fin7_nil]
  · simp only [if_neg k6] at f6 f7 ⊢
    have hl0 : list = [] := List.eq_nil_of_length_eq_zero (by omega)
    subst hl0
    by_cases k10 : kind = 10
    · subst k10
      simp only [if_pos] at f7 ⊢
      rw [tk_enc (u64_len f7 (by omega)) bytes]
      simp only [Int.toNat_natCast]
      have hcs := csz_le bytes.length
      have hc : (0 : Int) = 0 ∧ (bytes.length : Int) ≤ 20000 ∧ (bytes.length : Int) ≤ ((enc bytes.length ++ bytes).length : Int) - (csz bytes.length : Int) := ⟨rfl, by omega, by rw [List.length_append, enc_length]; omega⟩
      rw [if_pos (by simpa using hc), ← enc_length, List.drop_left]
      simp [fin7_nil]
    · simp only [if_neg k10] at f7 ⊢
      have hb0 : bytes = [] := List.eq_nil_of_length_eq_zero (by omega)
      subst hb0
      exact fin7_nil _
theorem rdec_ok {l : List Int} (hb : Bytes l) {x : C7} (h : rdec l = (x, 0)) : x.ok ∧ formedC x = true ∧ encC x = l := by
  unfold rdec at h
  obtain ⟨q, hq⟩ : ∃ q, q = rnums mostU 2 (l, false) := ⟨_, rfl⟩
  simp only [← hq] at h
  obtain ⟨q1, q2, q3⟩ := q
  simp only at h
  by_cases c1 : q3 = true ∨ 16 < q1.getD 0 0 ∨ 2147483647 < q1.getD 1 0 ∨ q1.getD 0 0 < 1
  · rw [if_pos c1] at h; simp at h
  rw [if_neg c1] at h
  simp only [not_or, Bool.not_eq_true] at c1
  obtain ⟨hq3, k16, w31, k1⟩ := c1
  subst hq3
  obtain ⟨g1, g2, g3⟩ := rnums_ok mostU 2 l hb (by rw [← hq])
  have g4 := rnums_length mostU 2 (l, false)
  rw [← hq] at g1 g2 g3 g4
  simp only at g1 g2 g3 g4
  obtain ⟨k, u, rfl⟩ : ∃ k u, q1 = [k, u] := by
    match q1, g4 with
    | [k, u], _ => exact ⟨k, u, rfl⟩
  simp only [List.getD_cons_zero, List.getD_cons_succ] at h k16 w31 k1
  obtain ⟨p, hp⟩ : ∃ p, p = rnums mostU (nums k) (q2, false) := ⟨_, rfl⟩
  rw [← hp] at h
  obtain ⟨p1, p2, p3⟩ := p
  simp only at h
  by_cases c2 : p3 = true
  · rw [if_pos c2] at h; simp at h
  rw [if_neg c2] at h
  simp only [Bool.not_eq_true] at c2
  subst c2
  obtain ⟨r1, r2, r3⟩ := rnums_ok mostU (nums k) q2 g3 (by rw [← hp])
  have r4 := rnums_length mostU (nums k) (q2, false)
  rw [← hp] at r1 r2 r3 r4
  simp only at r1 r2 r3 r4
  have t0 := three p1 _ r4 (nums_le k)
  have t1 := three0 p1 _ r4 (nums_le k)
  have hku := g2 k (by simp)
  have huu := g2 u (by simp)
  have hk0 := hku.1
  have hu0 := huu.1
  have a0 := getD_u64 p1 r2 0
  have a1 := getD_u64 p1 r2 1
  have a2 := getD_u64 p1 r2 2
  have kw : -9223372036854775808 ≤ k ∧ k ≤ 9223372036854775807 := ⟨by omega, by omega⟩
  have uw : -9223372036854775808 ≤ u ∧ u ≤ 9223372036854775807 := ⟨by omega, by omega⟩
  have hl : l = enc k ++ enc u ++ encs p1 ++ p2 := by rw [g1, r1]; simp [encs]
  generalize p1.getD 0 0 = a at *
  generalize p1.getD 1 0 = b at *
  generalize p1.getD 2 0 = c at *
  by_cases k6 : k = 6
  · rw [if_pos k6] at h
    by_cases ht : (tkl p2 8).2.2 = 0
    · rw [if_pos ht] at h
      obtain ⟨hr, rfl⟩ := fin7_ok h
      obtain ⟨j, e1, e2, e3, e4, e5⟩ := tkl_ok r3 ht
      rw [e1, Int.toNat_natCast] at hr
      rw [hr, List.append_nil] at e2
      refine ⟨⟨kw, uw, a0, a1, a2, e3, by simp [Bytes]⟩, ?_, ?_⟩
      · simp only [formedC, decide_eq_true_eq]
        exact ⟨by omega, by omega, by omega, by omega, t1, by rw [if_pos k6]; omega, by simp⟩
      · unfold encC encT
        simp only
        rw [t0, if_pos k6, ← e2, ← hl]
    · rw [if_neg ht] at h; simp at h
  rw [if_neg k6] at h
  by_cases k10 : k = 10
  · rw [if_pos k10] at h
    by_cases ht : (tk p2).2.2 = 0 ∧ (tk p2).1 ≤ 20000 ∧ (tk p2).1 ≤ (p2.length : Int) - (tk p2).2.1
    · rw [if_pos ht] at h
      obtain ⟨hr, rfl⟩ := fin7_ok h
      obtain ⟨ht1, ht2, ht3⟩ := ht
      rcases tk_facts r3 with h1 | h1
      · obtain ⟨_, hu, hk1, hk2, hk3, hen⟩ := h1
        have hu1 := hu.1
        obtain ⟨K, hK⟩ : ∃ K : Nat, (tk p2).2.1 = K := ⟨(tk p2).2.1.toNat, by omega⟩
        obtain ⟨N, hN⟩ : ∃ N : Nat, (tk p2).1 = N := ⟨(tk p2).1.toNat, by omega⟩
        rw [hK] at hen hk3 hr ht3
        rw [hN] at hen hr ht2 ht3
        rw [hK, hN]
        simp only [Int.toNat_natCast] at hen hr ⊢
        have hlen : ((p2.drop K).take N).length = N := by rw [List.length_take, List.length_drop]; omega
        refine ⟨⟨kw, uw, a0, a1, a2, by simp, (r3.drop K).take N⟩, ?_, ?_⟩
        · simp only [formedC, decide_eq_true_eq]
          exact ⟨by omega, by omega, by omega, by omega, t1, by simp, by rw [if_pos k10, hlen]; omega⟩
        · unfold encC encT
          simp only
          rw [t0, if_neg k6, if_pos k10, hlen, hen]
          have : (p2.drop K).take N = p2.drop K := by rw [← List.append_nil ((p2.drop K).take N), ← hr, List.take_append_drop]
          rw [this, List.take_append_drop, ← hl]
      · omega
    · rw [if_neg ht] at h; simp at h
  rw [if_neg k10] at h
  obtain ⟨hr, rfl⟩ := fin7_ok h
  refine ⟨⟨kw, uw, a0, a1, a2, by simp, by simp [Bytes]⟩, ?_, ?_⟩
  · simp only [formedC, decide_eq_true_eq]
    exact ⟨by omega, by omega, by omega, by omega, t1, by simp, by simp⟩
  · unfold encC encT
    simp only
    rw [t0, if_neg k6, if_neg k10, ← hr, ← hl]
theorem rdec_eq {l : List Int} (hb : Bytes l) : rdec l = decC l := by
  rcases decC_err l with h | h
  · obtain ⟨h1, h2, h3⟩ := (decC_iff hb (decC l).1).1 (by rw [← h])
    calc rdec l = rdec (encC (decC l).1) := by rw [h3]
      _ = ((decC l).1, 0) := rdec_enc h1 h2
      _ = decC l := Prod.ext rfl h.symm
  · rw [h]
    rcases rdec_err l with h2 | h2
    · have h3 := rdec_ok hb (x := (rdec l).1) (by rw [← h2])
      have := (decC_iff hb _).2 h3
      rw [h] at this
      simp at this
    · exact h2
end Go.Proofs.Ytcdbchdlenkdgaa
