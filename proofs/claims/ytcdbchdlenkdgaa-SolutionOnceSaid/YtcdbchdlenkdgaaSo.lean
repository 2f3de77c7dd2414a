/- Solutions: what they are, and their bytes (plain Lean, no program in sight). -/
import Derived.Test.YtcdbchdlenkdgaaCc
set_option linter.unusedVariables false
set_option linter.unusedSimpArgs false
namespace Go.Ps

structure Sol where
  com : List Int
  edges : List (Int × Int × Int)
  mn : Int
  sm : Int
  hi : Int
  lo : Int
deriving DecidableEq
def sol0 : Sol := ⟨[], [], 0, 0, 0, 0⟩
def most31 : Int := 2147483647
def I64' (n : Int) : Prop := -9223372036854775808 ≤ n ∧ n ≤ 9223372036854775807
def comAt (l : List Int) (i : Nat) : Bool := decide (0 ≤ l.getD i 0 ∧ l.getD i 0 ≤ 2147483647 ∧ (0 < i → l.getD (i - 1) 0 < l.getD i 0))
def edgeAt (l : List (Int × Int × Int)) (i : Nat) : Bool :=
  decide (0 ≤ (l.getD i d3).1 ∧ (l.getD i d3).1 ≤ 2147483647 ∧ 0 ≤ (l.getD i d3).2.1 ∧ (l.getD i d3).2.1 ≤ 2147483647 ∧ (l.getD i d3).2.2 ≠ 0 ∧
    (0 < i → (l.getD (i - 1) d3).1 < (l.getD i d3).1 ∨ (l.getD (i - 1) d3).1 = (l.getD i d3).1 ∧ (l.getD (i - 1) d3).2.1 < (l.getD i d3).2.1))
def formedS (x : Sol) : Bool := decide (x.com.length ≤ 8) && decide (x.edges.length ≤ 256) && (List.range x.com.length).all (comAt x.com) && (List.range x.edges.length).all (edgeAt x.edges)
def okE (e : Int × Int × Int) : Prop := I64' e.1 ∧ I64' e.2.1 ∧ U64' e.2.2
def Sol.ok (x : Sol) : Prop := (∀ n ∈ x.com, I64' n) ∧ (∀ e ∈ x.edges, okE e) ∧ U64' x.mn ∧ U64' x.sm ∧ U64' x.hi ∧ U64' x.lo
def flat : List (Int × Int × Int) → List Int
  | [] => []
  | e :: t => e.1 :: e.2.1 :: e.2.2 :: flat t
def numsS (x : Sol) : List Int := (x.com.length : Int) :: (x.com ++ ((x.edges.length : Int) :: (flat x.edges ++ [x.mn, x.sm, x.hi, x.lo])))
def encS (x : Sol) : List Int := encs (numsS x)

theorem flat_append : ∀ (l m : List (Int × Int × Int)), flat (l ++ m) = flat l ++ flat m
  | [], m => rfl
  | e :: l, m => by simp [flat, flat_append l m]
theorem flat_length : ∀ (l : List (Int × Int × Int)), (flat l).length = 3 * l.length
  | [] => rfl
  | e :: l => by simp [flat, flat_length l]; omega
theorem flat_getD : ∀ (l : List (Int × Int × Int)) (i : Nat), i < l.length → (flat l).getD (3 * i) 0 = (l.getD i d3).1 ∧ (flat l).getD (3 * i + 1) 0 = (l.getD i d3).2.1 ∧ (flat l).getD (3 * i + 2) 0 = (l.getD i d3).2.2
  | [], i, h => by simp at h
  | e :: l, 0, h => by simp [flat]
  | e :: l, i + 1, h => by
    have := flat_getD l i (by simpa using h)
    rw [show 3 * (i + 1) = 3 * i + 1 + 1 + 1 by omega, show 3 * i + 1 + 1 + 1 + 1 = 3 * i + 1 + 1 + 1 + 1 by rfl]
    simp only [flat, List.getD_cons_succ]
    exact this

theorem formedS_iff (x : Sol) : formedS x = true ↔ x.com.length ≤ 8 ∧ x.edges.length ≤ 256 ∧ (∀ i, i < x.com.length → comAt x.com i = true) ∧ (∀ i, i < x.edges.length → edgeAt x.edges i = true) := by
  unfold formedS
  simp only [Bool.and_eq_true, decide_eq_true_eq, List.all_eq_true, List.mem_range]
  exact ⟨fun ⟨⟨⟨a, b⟩, c⟩, d⟩ => ⟨a, b, c, d⟩, fun ⟨a, b, c, d⟩ => ⟨⟨⟨a, b⟩, c⟩, d⟩⟩
theorem formedS_not {x : Sol} (h : (∃ i, i < x.com.length ∧ comAt x.com i = false) ∨ (∃ i, i < x.edges.length ∧ edgeAt x.edges i = false) ∨ 8 < x.com.length ∨ 256 < x.edges.length) : formedS x = false := by
  cases hf : formedS x with
  | false => rfl
  | true =>
    obtain ⟨h1, h2, h3, h4⟩ := (formedS_iff x).1 hf
    rcases h with ⟨i, hi, hc⟩ | ⟨i, hi, hc⟩ | h | h
    · rw [h3 i hi] at hc; cases hc
    · rw [h4 i hi] at hc; cases hc
    · omega
    · omega
theorem mem_getD {α : Type} {l : List α} {z x : α} (h : x ∈ l) : ∃ i, i < l.length ∧ l.getD i z = x := by
  obtain ⟨i, hi, rfl⟩ := List.mem_iff_getElem.1 h
  exact ⟨i, hi, by simp [List.getD_eq_getElem?_getD, hi]⟩
theorem formed_com {x : Sol} (h : formedS x = true) : ∀ n ∈ x.com, U64' n ∧ n ≤ 2147483647 := fun n hn => by
  obtain ⟨i, hi, rfl⟩ := mem_getD (z := 0) hn
  have := of_decide_eq_true (((formedS_iff x).1 h).2.2.1 i hi)
  exact ⟨⟨this.1, by omega⟩, this.2.1⟩
theorem formed_edge {x : Sol} (h : formedS x = true) : ∀ e ∈ x.edges, (U64' e.1 ∧ e.1 ≤ 2147483647) ∧ (U64' e.2.1 ∧ e.2.1 ≤ 2147483647) ∧ e.2.2 ≠ 0 := fun n hn => by
  obtain ⟨i, hi, rfl⟩ := mem_getD (z := d3) hn
  have := of_decide_eq_true (((formedS_iff x).1 h).2.2.2 i hi)
  exact ⟨⟨⟨this.1, by omega⟩, this.2.1⟩, ⟨⟨this.2.2.1, by omega⟩, this.2.2.2.1⟩, this.2.2.2.2.1⟩
theorem flat_u64 : ∀ (l : List (Int × Int × Int)), (∀ e ∈ l, U64' e.1 ∧ U64' e.2.1 ∧ U64' e.2.2) → ∀ n ∈ flat l, U64' n
  | [], _, n, h => by cases h
  | e :: l, h, n, hn => by
    have he := h e (by simp)
    simp only [flat, List.mem_cons] at hn
    rcases hn with rfl | rfl | rfl | hn
    · exact he.1
    · exact he.2.1
    · exact he.2.2
    · exact flat_u64 l (fun e he => h e (by simp [he])) n hn
theorem numsS_u64 {x : Sol} (hk : x.ok) (hf : formedS x = true) : ∀ n ∈ numsS x, U64' n := by
  intro n hn
  obtain ⟨h1, h2, _, _⟩ := (formedS_iff x).1 hf
  obtain ⟨k1, k2, k3, k4, k5, k6⟩ := hk
  simp only [numsS, List.mem_cons, List.mem_append, List.not_mem_nil, or_false] at hn
  rcases hn with rfl | hn | rfl | hn | rfl | rfl | rfl | rfl
  · exact ⟨by omega, by omega⟩
  · exact (formed_com hf n hn).1
  · exact ⟨by omega, by omega⟩
  · exact flat_u64 x.edges (fun e he => ⟨(formed_edge hf e he).1.1, (formed_edge hf e he).2.1.1, (k2 e he).2.2⟩) n hn
  · exact k3
  · exact k4
  · exact k5
  · exact k6
theorem numsS_length (x : Sol) : (numsS x).length = x.com.length + 3 * x.edges.length + 6 := by
  simp [numsS, flat_length]; omega
theorem encS_bytes (x : Sol) : Bytes (encS x) := encs_bytes _
theorem encS_length {x : Sol} (hf : formedS x = true) : (encS x).length ≤ 20000 := by
  obtain ⟨h1, h2, _, _⟩ := (formedS_iff x).1 hf
  have := encs_length (numsS x)
  rw [numsS_length] at this
  unfold encS
  omega

/-! ### reading -/
def redges : Nat → (List Int × Bool) → List (Int × Int × Int) × (List Int × Bool)
  | 0, s => ([], s)
  | k + 1, s =>
    let a := rnum s most31
    let b := rnum a.2 most31
    let c := rnum b.2 mostU
    let q := redges k c.2
    ((a.1, b.1, c.1) :: q.1, q.2)
def readS (l : List Int) : Sol × (List Int × Bool) :=
  let r1 := rnum (l, false) 8
  let r2 := rnums most31 r1.1.toNat r1.2
  let r3 := rnum r2.2 256
  let r4 := redges r3.1.toNat r3.2
  let r5 := rnums mostU 4 r4.2
  (⟨r2.1, r4.1, r5.1.getD 0 0, r5.1.getD 1 0, r5.1.getD 2 0, r5.1.getD 3 0⟩, r5.2)
def decS (l : List Int) : Sol × Int :=
  if 20000 < l.length then (sol0, 4) else
  if (readS l).2.2 = true ∨ 0 < (readS l).2.1.length ∨ formedS (readS l).1 = false then (sol0, 2) else ((readS l).1, 0)

theorem rnums_encM {m : Int} : ∀ (l r : List Int), (∀ n ∈ l, U64' n ∧ n ≤ m) → rnums m l.length (encs l ++ r, false) = (l, (r, false))
  | [], r, _ => by simp [rnums, encs]
  | x :: l, r, h => by
    have hx := h x (by simp)
    simp only [List.length_cons, rnums, encs, List.append_assoc]
    rw [rnum_enc hx.1 _ hx.2, rnums_encM l r (fun n hn => h n (by simp [hn]))]
theorem redges_enc : ∀ (l : List (Int × Int × Int)) (r : List Int), (∀ e ∈ l, (U64' e.1 ∧ e.1 ≤ 2147483647) ∧ (U64' e.2.1 ∧ e.2.1 ≤ 2147483647) ∧ U64' e.2.2) → redges l.length (encs (flat l) ++ r, false) = (l, (r, false))
  | [], r, _ => by simp [redges, flat, encs]
  | e :: l, r, h => by
    obtain ⟨h1, h2, h3⟩ := h e (by simp)
    simp only [List.length_cons, redges, flat, encs, List.append_assoc, most31, mostU]
    rw [rnum_enc h1.1 _ h1.2]
    simp only
    rw [rnum_enc h2.1 _ h2.2]
    simp only
    rw [rnum_enc h3 _ (by have := h3.2; omega)]
    simp only
    rw [redges_enc l r (fun n hn => h n (by simp [hn]))]
theorem readS_enc {x : Sol} (hk : x.ok) (hf : formedS x = true) (r : List Int) : readS (encS x ++ r) = (x, (r, false)) := by
  obtain ⟨h1, h2, _, _⟩ := (formedS_iff x).1 hf
  have hc := formed_com hf
  have he := formed_edge hf
  obtain ⟨com, edges, mn, sm, hi, lo⟩ := x
  obtain ⟨k1, k2, k3, k4, k5, k6⟩ := hk
  simp only at *
  unfold readS encS numsS
  simp only [encs, encs_append, List.append_assoc]
  rw [rnum_enc ⟨by omega, by omega⟩ _ (by omega)]
  simp only [Int.toNat_natCast]
  rw [rnums_encM (m := most31) com _ (fun n hn => hc n hn)]
  simp only
  rw [rnum_enc ⟨by omega, by omega⟩ _ (by omega)]
  simp only [Int.toNat_natCast]
  rw [redges_enc edges _ (fun e hm => ⟨(he e hm).1, (he e hm).2.1, (k2 e hm).2.2⟩)]
  simp only
  have h4 := rnums_enc (m := mostU) (by decide) [mn, sm, hi, lo] r (by intro n hn; simp at hn; rcases hn with rfl | rfl | rfl | rfl <;> assumption)
  simp only [encs, List.append_assoc, List.length_cons, List.length_nil, Nat.zero_add, List.nil_append] at h4
  simp only [List.nil_append]
  rw [h4]
  simp
theorem redges_state : ∀ (k : Nat) (s : List Int × Bool), (redges k s).2.2 = false → s.2 = false
  | 0, s, h => h
  | k + 1, s, h => rnum_state s _ (rnum_state _ _ (rnum_state _ _ (redges_state k _ h)))
theorem redges_length : ∀ (k : Nat) (s : List Int × Bool), (redges k s).1.length = k
  | 0, _ => rfl
  | k + 1, s => by simp [redges, redges_length k]
theorem redges_ok : ∀ (k : Nat) (l : List Int), Bytes l → (redges k (l, false)).2.2 = false → l = encs (flat (redges k (l, false)).1) ++ (redges k (l, false)).2.1 ∧ (∀ e ∈ (redges k (l, false)).1, okE e) ∧ Bytes (redges k (l, false)).2.1
  | 0, l, hb, h => ⟨by simp [redges, flat, encs], by simp [redges], hb⟩
  | k + 1, l, hb, h => by
    simp only [redges] at h ⊢
    have hc := redges_state k _ h
    have hb' := rnum_state _ _ hc
    have ha := rnum_state _ _ hb'
    obtain ⟨a1, a2, a3, a4⟩ := rnum_ok hb ha
    generalize rnum (l, false) most31 = t at *
    obtain ⟨x, s, b⟩ := t
    simp only at *
    subst ha
    obtain ⟨b1, b2, b3, b4⟩ := rnum_ok a4 hb'
    generalize rnum (s, false) most31 = t at *
    obtain ⟨y, s2, b⟩ := t
    simp only at *
    subst hb'
    obtain ⟨c1, c2, c3, c4⟩ := rnum_ok b4 hc
    generalize rnum (s2, false) mostU = t at *
    obtain ⟨z, s3, b⟩ := t
    simp only at *
    subst hc
    obtain ⟨g1, g2, g3⟩ := redges_ok k s3 c4 h
    refine ⟨?_, ?_, g3⟩
    · simp only [flat, encs, List.append_assoc]
      rw [← g1, ← c1, ← b1]
      exact a1
    · intro e he
      rcases List.mem_cons.1 he with rfl | he
      · unfold most31 at a3 b3
        refine ⟨?_, ?_, c2⟩ <;> unfold I64' <;> simp only
        · have := a2.1; omega
        · have := b2.1; omega
      · exact g2 e he
theorem four (l : List Int) (h : l.length = 4) : l = [l.getD 0 0, l.getD 1 0, l.getD 2 0, l.getD 3 0] := by
  match l, h with
  | [x, y, z, t], _ => rfl
theorem rnums_le {m : Int} (hm : 0 ≤ m) : ∀ (k : Nat) (s : List Int × Bool), ∀ n ∈ (rnums m k s).1, n ≤ m
  | 0, s, n, h => by simp [rnums] at h
  | k + 1, s, n, h => by
    simp only [rnums, List.mem_cons] at h
    rcases h with rfl | h
    · unfold rnum
      split
      · rename_i h; exact h.2.2
      · exact hm
    · exact rnums_le hm k _ n h
theorem readS_ok {l : List Int} (hb : Bytes l) (h : (readS l).2.2 = false) : l = encS (readS l).1 ++ (readS l).2.1 ∧ (readS l).1.ok := by
  unfold readS at h ⊢
  obtain ⟨r1, e1⟩ : ∃ r, r = rnum (l, false) 8 := ⟨_, rfl⟩
  obtain ⟨r2, e2⟩ : ∃ r, r = rnums most31 r1.1.toNat r1.2 := ⟨_, rfl⟩
  obtain ⟨r3, e3⟩ : ∃ r, r = rnum r2.2 256 := ⟨_, rfl⟩
  obtain ⟨r4, e4⟩ : ∃ r, r = redges r3.1.toNat r3.2 := ⟨_, rfl⟩
  obtain ⟨r5, e5⟩ : ∃ r, r = rnums mostU 4 r4.2 := ⟨_, rfl⟩
  simp only [← e1, ← e2, ← e3, ← e4, ← e5] at h ⊢
  have b4 : r4.2.2 = false := by rw [e5] at h; exact rnums_state _ _ _ h
  have b3 : r3.2.2 = false := by rw [e4] at b4; exact redges_state _ _ b4
  have b2 : r2.2.2 = false := by rw [e3] at b3; exact rnum_state _ _ b3
  have b1 : r1.2.2 = false := by rw [e2] at b2; exact rnums_state _ _ _ b2
  rw [e1] at b1
  obtain ⟨g1, g2, g3, g4⟩ := rnum_ok hb b1
  rw [← e1] at g1 g2 g3 g4 b1
  obtain ⟨n1, s1, f1⟩ := r1
  simp only at *
  subst b1
  have hl2 := rnums_length most31 n1.toNat (s1, false)
  have hm2 := rnums_le (m := most31) (by decide) n1.toNat (s1, false)
  rw [e2] at b2
  obtain ⟨p1, p2, p3⟩ := rnums_ok most31 n1.toNat s1 g4 b2
  rw [← e2] at p1 p2 p3 b2 hl2 hm2
  obtain ⟨com, s2, f2⟩ := r2
  simp only at *
  subst b2
  rw [e3] at b3
  obtain ⟨q1, q2, q3, q4⟩ := rnum_ok p3 b3
  rw [← e3] at q1 q2 q3 q4 b3
  obtain ⟨n3, s3, f3⟩ := r3
  simp only at *
  subst b3
  have hl4 := redges_length n3.toNat (s3, false)
  rw [e4] at b4
  obtain ⟨t1, t2, t3⟩ := redges_ok n3.toNat s3 q4 b4
  rw [← e4] at t1 t2 t3 b4 hl4
  obtain ⟨edges, s4, f4⟩ := r4
  simp only at *
  subst b4
  have hl5 := rnums_length mostU 4 (s4, false)
  rw [e5] at h
  obtain ⟨u1, u2, u3⟩ := rnums_ok mostU 4 s4 t3 h
  rw [← e5] at u1 u2 u3 h hl5
  obtain ⟨sc, s5, f5⟩ := r5
  simp only at *
  have h5 := four sc hl5
  refine ⟨?_, fun n hn => ?_, t2, getD_u64 sc u2 0, getD_u64 sc u2 1, getD_u64 sc u2 2, getD_u64 sc u2 3⟩
  · unfold encS numsS
    simp only [encs, encs_append, List.append_assoc]
    have h6 : encs sc = enc (sc.getD 0 0) ++ (enc (sc.getD 1 0) ++ (enc (sc.getD 2 0) ++ (enc (sc.getD 3 0) ++ []))) := by
      have h7 := congrArg encs h5
      rw [h7]
      rfl
    rw [h6] at u1
    simp only [List.append_assoc, List.nil_append] at u1 ⊢
    have hn1 : (com.length : Int) = n1 := by rw [hl2]; have := g2.1; omega
    have hn3 : (edges.length : Int) = n3 := by rw [hl4]; have := q2.1; omega
    rw [hn1, hn3, ← u1, ← t1, ← q1, ← p1]
    exact g1
  · have := (p2 n hn).1
    have h8 := hm2 n hn
    unfold most31 at h8
    exact ⟨by omega, by omega⟩
theorem decS_iff {l : List Int} (hb : Bytes l) (x : Sol) : decS l = (x, 0) ↔ x.ok ∧ formedS x = true ∧ encS x = l := by
  constructor
  · intro h
    unfold decS at h
    split at h
    · simp at h
    · split at h
      · simp at h
      · rename_i hc
        simp only [not_or, Bool.not_eq_true, Nat.not_lt, Nat.le_zero] at hc
        simp only [Prod.mk.injEq, and_true] at h
        obtain ⟨h1, h2, h3⟩ := hc
        have hf : formedS (readS l).1 = true := by simpa using h3
        obtain ⟨g1, g2⟩ := readS_ok hb h1
        rw [List.eq_nil_of_length_eq_zero h2, List.append_nil] at g1
        rw [h] at g1 g2 hf
        exact ⟨g2, hf, g1.symm⟩
  · rintro ⟨h1, h2, rfl⟩
    have hl := encS_length h2
    have := readS_enc h1 h2 []
    rw [List.append_nil] at this
    unfold decS
    rw [if_neg (by omega), this]
    simp [h2]
theorem decS_err (l : List Int) : (decS l).2 = 0 ∨ decS l = (sol0, if 20000 < l.length then 4 else 2) := by
  unfold decS
  split
  · exact Or.inr rfl
  · split
    · exact Or.inr rfl
    · exact Or.inl rfl
theorem encS_prefix {x y : Sol} (hx : x.ok) (fx : formedS x = true) (hy : y.ok) (fy : formedS y = true) {r s : List Int} (h : encS x ++ r = encS y ++ s) : x = y ∧ r = s := by
  have h1 := readS_enc hx fx r
  have h2 := readS_enc hy fy s
  rw [h, h2] at h1
  simp only [Prod.mk.injEq, and_true] at h1
  exact ⟨h1.1.symm, h1.2.symm⟩
theorem decS_cut {x : Sol} (hx : x.ok) (fx : formedS x = true) (k : Nat) (hk : k < (encS x).length) : decS ((encS x).take k) = (sol0, 2) := by
  have hl := encS_length fx
  rcases decS_err ((encS x).take k) with h | h
  · exfalso
    have h2 := (decS_iff ((encS_bytes x).take k) (decS ((encS x).take k)).1).1 (by rw [← h])
    obtain ⟨a1, a2, a3⟩ := h2
    have h4 : encS x ++ [] = encS (decS ((encS x).take k)).1 ++ (encS x).drop k := by rw [a3, List.append_nil, List.take_append_drop]
    have h5 := (encS_prefix hx fx a1 a2 h4).2
    have h6 := congrArg List.length h5
    rw [List.length_drop] at h6
    simp at h6
    omega
  · rw [if_neg (by rw [List.length_take]; omega)] at h
    exact h
theorem encS_short {x : Sol} (fx : formedS x = true) : (encS x).length ≤ 10000 := by
  obtain ⟨h1, h2, _, _⟩ := (formedS_iff x).1 fx
  have := encs_length (numsS x)
  rw [numsS_length] at this
  unfold encS
  omega
theorem decS_more {x : Sol} (hx : x.ok) (fx : formedS x = true) (b : Int) (hb : 0 ≤ b ∧ b ≤ 255) : decS (encS x ++ [b]) = (sol0, 2) := by
  have hl := encS_short fx
  have hbb : Bytes (encS x ++ [b]) := (encS_bytes x).append (by intro y hy; simp at hy; subst hy; exact hb)
  rcases decS_err (encS x ++ [b]) with h | h
  · exfalso
    obtain ⟨a1, a2, a3⟩ := (decS_iff hbb (decS (encS x ++ [b])).1).1 (by rw [← h])
    have h4 : encS x ++ [b] = encS (decS (encS x ++ [b])).1 ++ [] := by rw [a3, List.append_nil]
    have h5 := (encS_prefix hx fx a1 a2 h4).2
    simp at h5
  · rw [if_neg (by rw [List.length_append, List.length_singleton]; omega)] at h
    exact h
end Go.Ps
