/- Bags: the law BagsBounds: a stake lies within the bounds of its bag, and of no other one; greater stakes belong to no lesser bags. For every input. -/
import Derived.Test.YtjloknjgipcefaaPBagsBoundsx2
import Derived.OpenShut
namespace Go.Proofs.Ytjloknjgipcefaa.Pure
open Go.RowKit Go.Proofs.Ytjloknjgipcefaa.PBagsBounds Go.Proofs.YtjloknjgipcefaaW.PrintWords Go.Proofs.YtjloknjgipcefaaW.PrintLast Go.Proofs.YtjloknjgipcefaaW.PrintMore Go.OpenShut

/-! ### what thresholds, bags and bounds are, in plain words -/
def Fm (l : List Int) : Prop := (l.length : Int) ≤ 100 ∧ ∀ j : Int, 0 < j → j < l.length → rd l (j - 1) < rd l j
def IsAt (l : List Int) (x : Int) (a : Int) : Prop := 0 ≤ a ∧ a ≤ l.length ∧ (∀ j : Int, 0 ≤ j → j < a → rd l j < x) ∧ (a < l.length → x ≤ rd l a)

theorem w_up {i n : Int} (h0 : 0 ≤ i) (h1 : i < n) (hn : n ≤ 140737488351232) : wrap64 (i + 1) = i + 1 := by unfold wrap64; omega
theorem w_down {i n : Int} (h0 : 0 < i) (h1 : i < n) (hn : n ≤ 140737488351232) : wrap64 (i - 1) = i - 1 := by unfold wrap64; omega

theorem rd_bd {l : List Int} (hb : ∀ x ∈ l, 0 ≤ x ∧ x ≤ 18446744073709551615) {i : Int} (h0 : 0 ≤ i) (h1 : i < l.length) : 0 ≤ rd l i ∧ rd l i ≤ 18446744073709551615 := by
  have hlt : i.toNat < l.length := by omega
  unfold rd
  rw [List.getD_eq_getElem?_getD, List.getElem?_eq_getElem hlt]
  exact hb _ (List.getElem_mem hlt)

theorem isAt_unique {l : List Int} {x a b : Int} (ha : IsAt l x a) (hb : IsAt l x b) : a = b := by
  obtain ⟨a0, a1, a2, a3⟩ := ha
  obtain ⟨b0, b1, b2, b3⟩ := hb
  rcases Int.lt_trichotomy a b with h | h | h
  · have := b2 a a0 h; have := a3 (by omega); omega
  · exact h
  · have := a2 b b0 h; have := b3 (by omega); omega

theorem isAt_mono {l : List Int} {x y a b : Int} (ha : IsAt l x a) (hb : IsAt l y b) (h : x ≤ y) : a ≤ b := by
  obtain ⟨a0, a1, a2, a3⟩ := ha
  obtain ⟨b0, b1, b2, b3⟩ := hb
  rcases Int.lt_or_le b a with hc | hc
  · have := a2 b b0 hc; have := b3 (by omega); omega
  · exact hc

theorem fm_mono {l : List Int} (h : Fm l) : ∀ (d : Nat) (i : Int), 0 ≤ i → i + d < l.length → rd l i ≤ rd l (i + d) := by
  intro d
  induction d with
  | zero => intro i _ _; simp
  | succ d ih =>
    intro i h0 h1
    have h2 := ih i h0 (by omega)
    have h3 := h.2 (i + (d + 1 : Nat)) (by omega) h1
    have e : i + ((d + 1 : Nat) : Int) - 1 = i + d := by omega
    rw [e] at h3
    omega

theorem fm_le {l : List Int} (h : Fm l) {i j : Int} (h0 : 0 ≤ i) (h1 : i ≤ j) (h2 : j < l.length) : rd l i ≤ rd l j := by
  have := fm_mono h (j - i).toNat i h0 (by omega)
  have e : i + ((j - i).toNat : Int) = j := by omega
  rwa [e] at this



/-! ### the program's functions and the document's -/
theorem formed_loop (l : List Int) (hn : (l.length : Int) ≤ 140737488351232) (d : Nat) : ∀ (k : Nat) (i : Int), 0 ≤ i → i ≤ l.length → (l.length : Int) - i = d → d < k → (∀ j : Int, 0 < j → j < i → rd l (j - 1) < rd l j) →
    ∃ b : Bool, bags_Formed.l0 k l l l.length i = some b ∧ (b = true ↔ Fm l) := by
  induction d with
  | zero =>
    intro k i h0 h1 hd hk hp
    obtain ⟨k, rfl⟩ : ∃ m, k = m + 1 := ⟨k - 1, by omega⟩
    refine ⟨decide ((l.length : Int) ≤ 100), ?_, ?_⟩
    · simp only [bags_Formed.l0]; rw [if_neg (by omega)]
    · rw [decide_eq_true_iff]
      exact ⟨fun h => ⟨h, fun j hj hj2 => hp j hj (by omega)⟩, fun h => h.1⟩
  | succ d ih =>
    intro k i h0 h1 hd hk hp
    obtain ⟨k, rfl⟩ : ∃ m, k = m + 1 := ⟨k - 1, by omega⟩
    simp only [bags_Formed.l0]
    rw [if_pos (by omega), if_pos h0, if_pos (by omega), w_up h0 (by omega : i < l.length) hn]
    by_cases hi : i > 0
    · rw [if_pos hi, w_down hi (by omega : i < l.length) hn, if_pos (by omega), if_pos (by omega)]
      by_cases hc : rd l i ≤ rd l (i - 1)
      · rw [if_pos hc]
        refine ⟨false, rfl, ⟨fun h => by simp at h, fun h => ?_⟩⟩
        have := h.2 i hi (by omega)
        omega
      · rw [if_neg hc]
        refine ih k (i + 1) (by omega) (by omega) (by omega) (by omega) fun j hj hj2 => ?_
        by_cases e : j = i
        · subst e; omega
        · exact hp j hj (by omega)
    · rw [if_neg hi]
      refine ih k (i + 1) (by omega) (by omega) (by omega) (by omega) fun j hj hj2 => ?_
      omega

theorem formed_ev (l : List Int) (hn : (l.length : Int) ≤ 140737488351232) : ∃ b : Bool, (b = true ↔ Fm l) ∧ ∀ k, l.length < k → bags_Formed.f k l = some b := by
  obtain ⟨b, h1, h2⟩ := formed_loop l hn l.length (l.length + 1) 0 (by omega) (by omega) (by omega) (by omega) (fun j _ _ => by omega)
  refine ⟨b, h2, fun k hk => ?_⟩
  obtain ⟨b', h1', h2'⟩ := formed_loop l hn l.length k 0 (by omega) (by omega) (by omega) hk (fun j _ _ => by omega)
  have : b = b' := by rw [Bool.eq_iff_iff, h2, h2']
  unfold bags_Formed.f
  rw [h1', this]

theorem search_loop (l : List Int) (x : Int) (hl : (l.length : Int) ≤ 100) (hs : ∀ i j : Int, 0 ≤ i → i ≤ j → j < l.length → rd l i ≤ rd l j) (d : Nat) : ∀ (k : Nat) (i j : Int), 0 ≤ i → i ≤ j → j ≤ l.length → j - i ≤ d → d < k →
    (∀ q : Int, 0 ≤ q → q < i → rd l q < x) → (∀ q : Int, j ≤ q → q < l.length → x ≤ rd l q) →
    ∃ (a : Int) (b : Bool), slices_BinarySearch_uint64_uint64.l0 k l x l.length i j = some (a, b) ∧ IsAt l x a := by
  have fin : ∀ (k : Nat) (i : Int), 0 ≤ i → i ≤ l.length → (∀ q : Int, 0 ≤ q → q < i → rd l q < x) → (∀ q : Int, i ≤ q → q < l.length → x ≤ rd l q) →
      ∃ (a : Int) (b : Bool), slices_BinarySearch_uint64_uint64.l0 (k + 1) l x l.length i i = some (a, b) ∧ IsAt l x a := by
    intro k i h0 h2 hp hq
    have hat : IsAt l x i := ⟨h0, h2, hp, fun h => hq i (by omega) h⟩
    simp only [slices_BinarySearch_uint64_uint64.l0]
    rw [if_neg (by omega)]
    by_cases hi : i < (l.length : Int)
    · rw [if_pos hi, if_pos h0, if_pos hi]
      by_cases he : rd l i = x
      · rw [if_pos he]; exact ⟨i, true, rfl, hat⟩
      · rw [if_neg he]
        simp only [slices_isNaN_uint64.f, Option.bind_some, bne_self_eq_false]
        exact ⟨i, false, by simp, hat⟩
    · rw [if_neg hi]; exact ⟨i, false, rfl, hat⟩
  induction d with
  | zero =>
    intro k i j h0 h1 h2 hd hk hp hq
    obtain ⟨k, rfl⟩ : ∃ m, k = m + 1 := ⟨k - 1, by omega⟩
    obtain rfl : i = j := by omega
    exact fin k i h0 h2 hp hq
  | succ d ih =>
    intro k i j h0 h1 h2 hd hk hp hq
    obtain ⟨k, rfl⟩ : ∃ m, k = m + 1 := ⟨k - 1, by omega⟩
    by_cases hij : i < j
    · have e1 : wrap64 (i + j) = i + j := by unfold wrap64; omega
      have e2 : IntKind.u64.wrap (i + j) = i + j := by rw [IntKind.wrap_u64]; omega
      have e3 : wrap64 ((i + j) / 2) = (i + j) / 2 := by unfold wrap64; omega
      obtain ⟨h, hh⟩ : ∃ h : Int, h = (i + j) / 2 := ⟨_, rfl⟩
      simp only [slices_BinarySearch_uint64_uint64.l0]
      rw [if_pos hij, e1, e2, e3, ← hh, if_pos (by omega), if_pos (by omega)]
      have e4 : wrap64 (h + 1) = h + 1 := by unfold wrap64; omega
      have hless : cmp_Less_uint64.f (rd l h) x = some (decide (rd l h < x)) := by
        simp [cmp_Less_uint64.f, cmp_isNaN_uint64.f]
      rw [hless, e4]
      simp only [Option.bind_some, decide_eq_true_eq]
      by_cases hc : rd l h < x
      · rw [if_pos hc]
        refine ih k (h + 1) j (by omega) (by omega) h2 (by omega) (by omega) (fun q q0 q1 => ?_) hq
        have := hs q h q0 (by omega) (by omega)
        omega
      · rw [if_neg hc]
        refine ih k i h h0 (by omega) (by omega) (by omega) (by omega) hp (fun q q0 q1 => ?_)
        have := hs h q (by omega) (by omega) (by omega)
        omega
    · obtain rfl : i = j := by omega
      exact fin k i h0 h2 hp hq

theorem bag_ev (l : List Int) (x : Int) (hn : (l.length : Int) ≤ 140737488351232) : (Fm l → ∃ a, IsAt l x a ∧ ∀ k, l.length < k → bags_Bag.f k l x = some (a, 0)) ∧ (¬ Fm l → ∀ k, l.length < k → bags_Bag.f k l x = some (0, 1)) := by
  obtain ⟨b, hb, hf⟩ := formed_ev l hn
  constructor
  · intro h
    obtain ⟨a, q, h1, h2⟩ := search_loop l x h.1 (fun i j => fm_le h) l.length (l.length + 1) 0 l.length (by omega) (by omega) (by omega) (by omega) (by omega) (fun q _ _ => by omega) (fun q _ _ => by omega)
    refine ⟨a, h2, fun k hk => ?_⟩
    obtain ⟨a', q', h1', h2'⟩ := search_loop l x h.1 (fun i j => fm_le h) l.length k 0 l.length (by omega) (by omega) (by omega) (by omega) hk (fun q _ _ => by omega) (fun q _ _ => by omega)
    obtain rfl := isAt_unique h2 h2'
    unfold bags_Bag.f slices_BinarySearch_uint64_uint64.f
    rw [hf k hk, h1']
    simp [hb.2 h]
  · intro h k hk
    have : b = false := by
      cases b
      · rfl
      · exact absurd (hb.1 rfl) h
    unfold bags_Bag.f
    rw [hf k hk, this]
    simp

def BoundsOf (l : List Int) (i : Int) : Int × Int × Int :=
  if i < 0 ∨ l.length < i then (0, 0, 5)
  else if 0 < i ∧ rd l (i - 1) = 18446744073709551615 then (0, 0, 5)
  else (if 0 < i then rd l (i - 1) + 1 else 0, if i < l.length then rd l i else 18446744073709551615, 0)

theorem bounds_ev (l : List Int) (i : Int) (hb : ∀ x ∈ l, 0 ≤ x ∧ x ≤ 18446744073709551615) (hn : (l.length : Int) ≤ 140737488351232) : (Fm l → ∀ k, l.length + 2 < k → bags_Bounds.f k l i = some (BoundsOf l i)) ∧ (¬ Fm l → ∀ k, l.length + 2 < k → bags_Bounds.f k l i = some (0, 0, 1)) := by
  obtain ⟨b, hbb, hf⟩ := formed_ev l hn
  constructor
  · intro h k hk
    obtain ⟨k, rfl⟩ : ∃ m, k = m + 1 := ⟨k - 1, by omega⟩
    unfold bags_Bounds.f
    rw [hf _ (by omega), hbb.2 h]
    simp only [Option.bind_some, if_true]
    unfold BoundsOf
    by_cases c1 : i < 0
    · rw [if_pos c1, if_pos (Or.inl c1)]
    · rw [if_neg c1]
      by_cases c2 : i > (l.length : Int)
      · rw [if_pos c2, if_pos (Or.inr (by omega))]
      · rw [if_neg c2, if_neg (show ¬ (i < 0 ∨ (l.length : Int) < i) by omega)]
        have key : ∀ y : Int, bags_Bounds.j0 (k + 1) l i 0 y = some (if 0 < i ∧ rd l (i - 1) = 18446744073709551615 then (0, 0, 5) else (if 0 < i then rd l (i - 1) + 1 else 0, y, 0)) := by
          intro y
          simp only [bags_Bounds.j0]
          by_cases c3 : i > 0
          · have bd := rd_bd hb (show 0 ≤ i - 1 by omega) (by omega)
            have e : wrap64 (i - 1) = i - 1 := by unfold wrap64; omega
            rw [if_pos c3, e, if_pos (by omega), if_pos (by omega), IntKind.wrap_u64]
            by_cases c4 : rd l (i - 1) = 18446744073709551615
            · rw [if_pos (by omega), if_pos ⟨by omega, c4⟩]
            · rw [if_neg (by omega), if_neg (by omega), if_pos (by omega)]
              congr 2
              omega
          · rw [if_neg c3, if_neg (by omega), if_neg (by omega)]
        by_cases c5 : i < (l.length : Int)
        · rw [if_pos c5, if_pos (by omega), key, if_pos c5]
        · rw [if_neg c5, key, if_neg c5]
  · intro h k hk
    have : b = false := by
      cases b
      · rfl
      · exact absurd (hbb.1 rfl) h
    unfold bags_Bounds.f
    rw [hf _ (by omega), this]
    simp

theorem awake_ev : ∀ k, 3 < k → psephoslaw08_awake.f k = some true := by
  have h : psephoslaw08_awake.f 4 = some true := by decide +kernel
  exact fun k hk => at_rounds psephoslaw08_awake.mono hk h

theorem bagsb_loop (l : List Int) (x n : Int) (hb : ∀ y ∈ l, 0 ≤ y ∧ y ≤ 18446744073709551615) (hx : 0 ≤ x ∧ x ≤ 18446744073709551615) (h : Fm l) (hat : IsAt l x n) (d : Nat) : ∀ (k : Nat) (i : Int), 0 ≤ i → i ≤ l.length + 1 → (l.length : Int) + 1 - i = d → d + l.length + 3 < k →
    psephoslaw08_BagsBounds.l0 k l x n (l.length + 1) i = some true := by
  have hn : (l.length : Int) ≤ 140737488351232 := by have := h.1; omega
  induction d with
  | zero =>
    intro k i h0 h1 hd hk
    obtain ⟨k, rfl⟩ : ∃ m, k = m + 1 := ⟨k - 1, by omega⟩
    simp only [psephoslaw08_BagsBounds.l0]; rw [if_neg (by omega)]
  | succ d ih =>
    intro k i h0 h1 hd hk
    obtain ⟨k, rfl⟩ : ∃ m, k = m + 1 := ⟨k - 1, by omega⟩
    simp only [psephoslaw08_BagsBounds.l0]
    have e : wrap64 (i + 1) = i + 1 := by unfold wrap64; omega
    rw [if_pos (by omega), (bounds_ev l i hb hn).1 h k (by omega), e, ih k (i + 1) (by omega) (by omega) (by omega) (by omega)]
    simp only [Option.bind_some]
    -- within the bounds just if it is the bag
    have key : IsAt l x i ↔ i = n := ⟨fun q => isAt_unique q hat, fun q => q ▸ hat⟩
    have hin : IsAt l x i ↔ ((0 < i → rd l (i - 1) < x) ∧ (i < l.length → x ≤ rd l i)) := by
      constructor
      · intro q
        exact ⟨fun hi => q.2.2.1 (i - 1) (by omega) (by omega), q.2.2.2⟩
      · intro q
        refine ⟨h0, by omega, fun j j0 j1 => ?_, q.2⟩
        have := q.1 (by omega)
        have := fm_le h j0 (show j ≤ i - 1 by omega) (by omega)
        omega
    rw [hin] at key
    unfold BoundsOf
    rw [if_neg (show ¬ (i < 0 ∨ (l.length : Int) < i) by omega)]
    by_cases c1 : 0 < i ∧ rd l (i - 1) = 18446744073709551615
    · rw [if_pos c1]
      have hne : ¬ i = n := by
        rw [← key]
        intro q
        have := q.1 c1.1
        omega
      have hbe : (i == n) = false := by simpa using hne
      simp [hbe]
    · rw [if_neg c1]
      simp only [if_true]
      by_cases c2 : 0 < i
      · have bd := rd_bd hb (show 0 ≤ i - 1 by omega) (by omega)
        rw [if_pos c2]
        by_cases c3 : rd l (i - 1) + 1 ≤ x
        · rw [if_pos c3]
          by_cases c4 : i < (l.length : Int)
          · rw [if_pos c4]
            have hbe : (i == n) = decide (x ≤ rd l i) := by
              rw [Bool.eq_iff_iff, decide_eq_true_iff, beq_iff_eq, ← key]
              exact ⟨fun q => q.2 c4, fun q => ⟨fun _ => by omega, fun _ => q⟩⟩
            rw [hbe]; simp
          · rw [if_neg c4]
            have hbe : (i == n) = true := by
              rw [beq_iff_eq, ← key]
              exact ⟨fun _ => by omega, fun q => absurd q c4⟩
            rw [hbe, decide_eq_true hx.2]; simp
        · rw [if_neg c3]
          have hbe : (i == n) = false := by
            rw [beq_eq_false_iff_ne]
            intro q
            have := (key.2 q).1 c2
            omega
          rw [hbe]; simp
      · rw [if_neg c2, if_pos hx.1]
        by_cases c4 : i < (l.length : Int)
        · rw [if_pos c4]
          have hbe : (i == n) = decide (x ≤ rd l i) := by
            rw [Bool.eq_iff_iff, decide_eq_true_iff, beq_iff_eq, ← key]
            exact ⟨fun q => q.2 c4, fun q => ⟨fun p => absurd p c2, fun _ => q⟩⟩
          rw [hbe]; simp
        · rw [if_neg c4]
          have hbe : (i == n) = true := by
            rw [beq_iff_eq, ← key]
            exact ⟨fun p => absurd p c2, fun q => absurd q c4⟩
          rw [hbe, decide_eq_true hx.2]; simp

theorem BagsBounds : psephoslaw08_BagsBounds.Pure := by
  intro l x more hm hsz hwf hwx hwm
  have hn : (l.length : Int) ≤ 140737488351232 := by omega
  have hb : ∀ y ∈ l, 0 ≤ y ∧ y ≤ 18446744073709551615 := fun y hy => bounds_u64 (hwf y hy)
  have hx := bounds_u64 hwx
  refine ⟨l.length + l.length + 10, ?_⟩
  unfold psephoslaw08_BagsBounds.f
  rw [awake_ev _ (by omega)]
  simp only [Option.bind_some, if_true]
  have out : ∀ k, 4 < k → psephoslaw08_BagsBounds.j0 k l x more true = some true := by
    intro k hk
    obtain ⟨k, rfl⟩ : ∃ m, k = m + 1 := ⟨k - 1, by omega⟩
    simp only [psephoslaw08_BagsBounds.j0, if_true]
    rw [awake_ev _ (by omega)]
    rfl
  by_cases c : (l.length : Int) > 100
  · rw [if_pos c]; exact out _ (by omega)
  · rw [if_neg c]
    obtain ⟨b1, f1, f2⟩ := formed_ev l hn
    rw [f2 _ (by omega)]
    simp only [Option.bind_some]
    cases b1 with
    | false => exact out _ (by omega)
    | true =>
      have h : Fm l := f1.1 rfl
      simp only [Bool.not_true, psephoslaw08_BagsBounds.j0]
      rw [if_neg (by simp)]
      obtain ⟨a, ha, ha2⟩ := (bag_ev l x hn).1 h
      obtain ⟨m, hm1, hm2⟩ := (bag_ev l (mx x more) hn).1 h
      rw [ha2 _ (by omega), hm2 _ (by omega)]
      simp only [Option.bind_some, if_true]
      have hle : a ≤ m := isAt_mono ha hm1 (by unfold mx; split <;> omega)
      rw [decide_eq_false (show ¬ m < a by omega)]
      simp only [psephoslaw08_BagsBounds.j1]
      rw [if_neg (by simp)]
      have e : wrap64 ((l.length : Int) + 1) = (l.length : Int) + 1 := by unfold wrap64; omega
      rw [e]
      exact bagsb_loop l x a hb hx h ha (l.length + 1) _ 0 (by omega) (by omega) (by omega) (by omega)

end Go.Proofs.Ytjloknjgipcefaa.Pure
