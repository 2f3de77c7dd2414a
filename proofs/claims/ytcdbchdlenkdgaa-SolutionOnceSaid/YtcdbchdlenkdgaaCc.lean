/- Calls: what they are, and their bytes (plain Lean, no program in sight). -/
import Derived.Test.YtcdbchdlenkdgaaCl
set_option linter.unusedVariables false
set_option linter.unusedSimpArgs false
namespace Go.Ps

structure C7 where
  kind : Int
  who : Int
  a : Int
  b : Int
  c : Int
  list : List Int
  bytes : List Int
deriving DecidableEq
def c7zero : C7 := ⟨0, 0, 0, 0, 0, [], []⟩
/-- How many numbers a kind has. -/
def nums (k : Int) : Nat := if k = 1 ∨ k = 13 then 2 else if k = 2 ∨ k = 3 ∨ k = 5 ∨ k = 8 ∨ k = 9 then 1 else if k = 11 ∨ k = 12 then 3 else 0
theorem nums_le (k : Int) : nums k ≤ 3 := by unfold nums; (repeat' split) <;> omega
def formedC (x : C7) : Bool := decide (1 ≤ x.kind ∧ x.kind ≤ 16 ∧ 0 ≤ x.who ∧ x.who ≤ 2147483647 ∧ (∀ n ∈ [x.a, x.b, x.c].drop (nums x.kind), n = 0) ∧ x.list.length ≤ (if x.kind = 6 then 8 else 0) ∧ x.bytes.length ≤ (if x.kind = 10 then 20000 else 0))
def C7.ok (x : C7) : Prop := (-9223372036854775808 ≤ x.kind ∧ x.kind ≤ 9223372036854775807) ∧ (-9223372036854775808 ≤ x.who ∧ x.who ≤ 9223372036854775807) ∧ U64' x.a ∧ U64' x.b ∧ U64' x.c ∧ (∀ n ∈ x.list, U64' n) ∧ Bytes x.bytes
/-- What stands behind a call's numbers. -/
def encT (x : C7) : List Int := if x.kind = 6 then encL x.list else if x.kind = 10 then enc x.bytes.length ++ x.bytes else []
def encC (x : C7) : List Int := enc x.kind ++ enc x.who ++ encs ([x.a, x.b, x.c].take (nums x.kind)) ++ encT x

/-! ### reading -/
/-- A reader's state: what is left, and whether it is bad. -/
def rnum (s : List Int × Bool) (most : Int) : Int × (List Int × Bool) :=
  if s.2 = false ∧ (tk s.1).2.2 = 0 ∧ (tk s.1).1 ≤ most then ((tk s.1).1, (s.1.drop (tk s.1).2.1.toNat, false)) else (0, (s.1, true))
/-- so many numbers, one behind the other -/
def rnums (most : Int) : Nat → (List Int × Bool) → List Int × (List Int × Bool)
  | 0, s => ([], s)
  | k + 1, s => let r := rnum s most; let q := rnums most k r.2; (r.1 :: q.1, q.2)
def rbytes (s : List Int × Bool) : List Int × (List Int × Bool) :=
  let r := rnum s 20000
  if (r.2.1.length : Int) < r.1 then ([], (r.2.1, true)) else (r.2.1.take r.1.toNat, (r.2.1.drop r.1.toNat, r.2.2))
def mostU : Int := 18446744073709551615
/-- The call that is read, and the reader's state behind it. -/
def readC (l : List Int) : C7 × (List Int × Bool) :=
  let r1 := rnum (l, false) 16
  let r2 := rnum r1.2 2147483647
  let r3 := rnums mostU (nums r1.1) r2.2
  let r4 := if r1.1 = 6 then (let n := rnum r3.2 8; rnums mostU n.1.toNat n.2) else ([], r3.2)
  let r5 := if r1.1 = 10 then rbytes r4.2 else ([], r4.2)
  (⟨r1.1, r2.1, r3.1.getD 0 0, r3.1.getD 1 0, r3.1.getD 2 0, r4.1, r5.1⟩, r5.2)
def decC (l : List Int) : C7 × Int :=
  let r := readC l
  if r.2.2 = true ∨ 0 < r.2.1.length ∨ formedC r.1 = false then (c7zero, 2) else (r.1, 0)

theorem rnum_bad (l : List Int) (m : Int) : rnum (l, true) m = (0, (l, true)) := by simp [rnum]
theorem rnum_enc {n : Int} (h : U64' n) (r : List Int) {m : Int} (hm : n ≤ m) : rnum (enc n ++ r, false) m = (n, (r, false)) := by
  unfold rnum
  rw [tk_enc h]
  simp only [true_and, if_pos hm, Int.toNat_natCast]
  rw [← enc_length n, List.drop_left']
  rfl
/-- A number that was read: its bytes stood there. -/
theorem rnum_ok {l : List Int} (hb : Bytes l) {m : Int} (h : (rnum (l, false) m).2.2 = false) : l = enc (rnum (l, false) m).1 ++ (rnum (l, false) m).2.1 ∧ U64' (rnum (l, false) m).1 ∧ (rnum (l, false) m).1 ≤ m ∧ Bytes (rnum (l, false) m).2.1 := by
  unfold rnum at h ⊢
  split
  · rename_i hc
    simp only at hc ⊢
    rcases tk_facts hb with hf | hf
    · refine ⟨?_, hf.2.1, hc.2.2, hb.drop _⟩
      rw [hf.2.2.2.2.2, List.take_append_drop]
    · omega
  · rename_i hc
    rw [if_neg hc] at h
    simp at h
theorem rnum_state (s : List Int × Bool) (m : Int) : (rnum s m).2.2 = false → s.2 = false := by
  unfold rnum
  split
  · rename_i h; intro _; exact h.1
  · intro h; simp at h
theorem rnums_state (m : Int) : ∀ (k : Nat) (s : List Int × Bool), (rnums m k s).2.2 = false → s.2 = false
  | 0, s, h => h
  | k + 1, s, h => rnum_state s m (rnums_state m k _ h)
theorem rnums_length (m : Int) : ∀ (k : Nat) (s : List Int × Bool), (rnums m k s).1.length = k
  | 0, _ => rfl
  | k + 1, s => by simp [rnums, rnums_length m k]
theorem rnums_ok (m : Int) : ∀ (k : Nat) (l : List Int), Bytes l → (rnums m k (l, false)).2.2 = false → l = encs (rnums m k (l, false)).1 ++ (rnums m k (l, false)).2.1 ∧ (∀ n ∈ (rnums m k (l, false)).1, U64' n) ∧ Bytes (rnums m k (l, false)).2.1
  | 0, l, hb, h => ⟨by simp [rnums, encs], by simp [rnums], hb⟩
  | k + 1, l, hb, h => by
    simp only [rnums] at h ⊢
    have hs := rnums_state m k _ h
    obtain ⟨h1, h2, h3, h4⟩ := rnum_ok hb hs
    generalize rnum (l, false) m = t at *
    obtain ⟨x, s, b⟩ := t
    simp only at *
    subst hs
    obtain ⟨g1, g2, g3⟩ := rnums_ok m k s h4 h
    refine ⟨?_, ?_, g3⟩
    · rw [encs, List.append_assoc, ← g1]
      exact h1
    · intro n hn
      rcases List.mem_cons.1 hn with rfl | hn
      · exact h2
      · exact g2 n hn
theorem rnums_enc {m : Int} (hm : 18446744073709551615 ≤ m) : ∀ (l r : List Int), (∀ n ∈ l, U64' n) → rnums m l.length (encs l ++ r, false) = (l, (r, false))
  | [], r, _ => by simp [rnums, encs]
  | x :: l, r, h => by
    have hx := h x (by simp)
    simp only [List.length_cons, rnums, encs, List.append_assoc]
    rw [rnum_enc hx _ (by have := hx.2; omega), rnums_enc hm l r (fun n hn => h n (by simp [hn]))]
theorem u64_len {l : List Int} {n : Nat} (h : l.length ≤ n) (hn : n ≤ 20000) : U64' (l.length : Int) := ⟨by omega, by omega⟩

/-- A formed call's bytes are read as it was, whatever stands behind. -/
theorem readC_enc {x : C7} (hk : x.ok) (hf : formedC x = true) (r : List Int) : readC (encC x ++ r) = (x, (r, false)) := by
  obtain ⟨kind, who, a, b, c, list, bytes⟩ := x
  simp only [formedC, decide_eq_true_eq] at hf
  obtain ⟨f1, f2, f3, f4, f5, f6, f7⟩ := hf
  obtain ⟨_, _, h3, h4, h5, h6, h7⟩ := hk
  simp only at *
  have hkind : U64' kind := ⟨by omega, by omega⟩
  have hwho : U64' who := ⟨by omega, by omega⟩
  unfold readC encC
  simp only [List.append_assoc]
  rw [rnum_enc hkind _ f2]
  simp only
  rw [rnum_enc hwho _ f4]
  simp only
  have hn3 := nums_le kind
  have hlen : ([a, b, c].take (nums kind)).length = nums kind := by rw [List.length_take]; simp; omega
  have hnums := rnums_enc (m := mostU) (by decide) ([a, b, c].take (nums kind)) (encT ⟨kind, who, a, b, c, list, bytes⟩ ++ r) (by
    intro n hn
    have := List.mem_of_mem_take hn
    simp only [List.mem_cons, List.not_mem_nil, or_false] at this
    rcases this with rfl | rfl | rfl <;> assumption)
  rw [hlen] at hnums
  rw [hnums]
  simp only
  have habc : ([a, b, c].take (nums kind)).getD 0 0 = a ∧ ([a, b, c].take (nums kind)).getD 1 0 = b ∧ ([a, b, c].take (nums kind)).getD 2 0 = c := by
    have : nums kind = 0 ∨ nums kind = 1 ∨ nums kind = 2 ∨ nums kind = 3 := by omega
    rcases this with e | e | e | e <;> rw [e] at f5 ⊢ <;> simp at f5 ⊢ <;> omega
  rw [habc.1, habc.2.1, habc.2.2]
  unfold encT
  by_cases k6 : kind = 6
  · subst k6
    simp only [if_pos] at f6 f7 ⊢
    have hb0 : bytes = [] := List.eq_nil_of_length_eq_zero (by simpa using f7)
    subst hb0
    unfold encL
    rw [List.append_assoc, rnum_enc (u64_len f6 (by omega)) _ (by omega)]
    simp only [Int.toNat_natCast]
    rw [rnums_enc (by decide) list r h6]
    simp
  · simp only [if_neg k6] at f6 f7 ⊢
    have hl0 : list = [] := List.eq_nil_of_length_eq_zero (by omega)
    subst hl0
    by_cases k10 : kind = 10
    · subst k10
      simp only [if_pos] at f7 ⊢
      unfold rbytes
      simp only [List.append_assoc]
      rw [rnum_enc (u64_len f7 (by omega)) _ (by omega)]
      rw [if_neg (by simp; omega)]
      simp
    · simp only [if_neg k10] at f7 ⊢
      have hb0 : bytes = [] := List.eq_nil_of_length_eq_zero (by omega)
      subst hb0
      simp
theorem rbytes_ok {l : List Int} (hb : Bytes l) (h : (rbytes (l, false)).2.2 = false) : l = enc (rbytes (l, false)).1.length ++ (rbytes (l, false)).1 ++ (rbytes (l, false)).2.1 ∧ Bytes (rbytes (l, false)).1 ∧ (rbytes (l, false)).1.length ≤ 20000 := by
  unfold rbytes at h ⊢
  simp only at h ⊢
  by_cases hl : ((rnum (l, false) 20000).2.1.length : Int) < (rnum (l, false) 20000).1
  · rw [if_pos hl] at h; simp at h
  · rw [if_neg hl] at h ⊢
    simp only at h ⊢
    obtain ⟨h1, h2, h3, h4⟩ := rnum_ok hb h
    generalize rnum (l, false) 20000 = t at *
    obtain ⟨x, s, b⟩ := t
    simp only at *
    have hx := h2.1
    have hlen : (s.take x.toNat).length = x.toNat := by rw [List.length_take]; omega
    have hx2 : ((s.take x.toNat).length : Int) = x := by rw [hlen]; omega
    refine ⟨?_, h4.take _, by omega⟩
    rw [hx2, List.append_assoc, List.take_append_drop]
    exact h1
theorem rbytes_state (s : List Int × Bool) : (rbytes s).2.2 = false → s.2 = false := by
  unfold rbytes
  simp only
  split
  · intro h; simp at h
  · intro h; exact rnum_state s 20000 h
theorem three (l : List Int) (k : Nat) (h : l.length = k) (hk : k ≤ 3) : [l.getD 0 0, l.getD 1 0, l.getD 2 0].take k = l := by
  match l, h with
  | [], h => subst h; rfl
  | [x], h => subst h; rfl
  | [x, y], h => subst h; rfl
  | [x, y, z], h => subst h; rfl
  | _ :: _ :: _ :: _ :: _, h => simp at h; omega
theorem getD_u64 (l : List Int) (h : ∀ n ∈ l, U64' n) (i : Nat) : U64' (l.getD i 0) := by
  rw [List.getD_eq_getElem?_getD]
  cases hg : l[i]? with
  | none => exact ⟨by simp, by simp⟩
  | some y => exact h y (List.mem_of_getElem? hg)
/-- What is read whole had just these bytes. -/
theorem readC_ok {l : List Int} (hb : Bytes l) (h : (readC l).2.2 = false) (hf : formedC (readC l).1 = true) : l = encC (readC l).1 ++ (readC l).2.1 ∧ (readC l).1.ok := by
  unfold readC at h hf ⊢
  obtain ⟨r1, e1⟩ : ∃ r, r = rnum (l, false) 16 := ⟨_, rfl⟩
  obtain ⟨r2, e2⟩ : ∃ r, r = rnum r1.2 2147483647 := ⟨_, rfl⟩
  obtain ⟨r3, e3⟩ : ∃ r, r = rnums mostU (nums r1.1) r2.2 := ⟨_, rfl⟩
  obtain ⟨r4, e4⟩ : ∃ r, r = if r1.1 = 6 then (let n := rnum r3.2 8; rnums mostU n.1.toNat n.2) else ([], r3.2) := ⟨_, rfl⟩
  obtain ⟨r5, e5⟩ : ∃ r, r = if r1.1 = 10 then rbytes r4.2 else ([], r4.2) := ⟨_, rfl⟩
  simp only [← e1, ← e2, ← e3, ← e4, ← e5] at h hf ⊢
  have b4 : r4.2.2 = false := by
    by_cases k : r1.1 = 10
    · rw [if_pos k] at e5; rw [e5] at h; exact rbytes_state _ h
    · rw [if_neg k] at e5; rw [e5] at h; exact h
  have b3 : r3.2.2 = false := by
    by_cases k : r1.1 = 6
    · rw [if_pos k] at e4; rw [e4] at b4; exact rnum_state _ _ (rnums_state _ _ _ b4)
    · rw [if_neg k] at e4; rw [e4] at b4; exact b4
  have b2 : r2.2.2 = false := by rw [e3] at b3; exact rnums_state _ _ _ b3
  have b1 : r1.2.2 = false := by rw [e2] at b2; exact rnum_state _ _ b2
  rw [e1] at b1
  obtain ⟨g1, g2, g3, g4⟩ := rnum_ok hb b1
  rw [← e1] at g1 g2 g3 g4 b1
  obtain ⟨kind, s1, f1⟩ := r1
  simp only at *
  subst b1
  rw [e2] at b2
  obtain ⟨p1, p2, p3, p4⟩ := rnum_ok g4 b2
  rw [← e2] at p1 p2 p3 p4 b2
  obtain ⟨who, s2, f2⟩ := r2
  simp only at *
  subst b2
  have hlen := rnums_length mostU (nums kind) (s2, false)
  rw [e3] at b3
  obtain ⟨q1, q2, q3⟩ := rnums_ok mostU (nums kind) s2 p4 b3
  rw [← e3] at q1 q2 q3 b3 hlen
  obtain ⟨abc, s3, f3⟩ := r3
  simp only at *
  subst b3
  have h3 := three abc _ hlen (nums_le kind)
  have t4 : s3 = (if kind = 6 then encL r4.1 else []) ++ r4.2.1 ∧ (∀ n ∈ r4.1, U64' n) ∧ Bytes r4.2.1 := by
    by_cases k : kind = 6
    · rw [if_pos k] at e4 ⊢
      rw [e4] at b4 ⊢
      have b := rnums_state _ _ _ b4
      obtain ⟨a1, a2, a3, a4⟩ := rnum_ok q3 b
      generalize rnum (s3, false) 8 = t at *
      obtain ⟨n, s, f⟩ := t
      simp only at *
      subst b
      obtain ⟨c1, c2, c3⟩ := rnums_ok mostU n.toNat s a4 b4
      have hl := rnums_length mostU n.toNat (s, false)
      refine ⟨?_, c2, c3⟩
      have hl2 : ((rnums mostU n.toNat (s, false)).1.length : Int) = n := by rw [hl]; have := a2.1; omega
      unfold encL
      rw [hl2, List.append_assoc, ← c1]
      exact a1
    · rw [if_neg k] at e4 ⊢
      rw [e4]
      exact ⟨rfl, by simp, q3⟩
  obtain ⟨list, s4, f4⟩ := r4
  simp only at *
  subst b4
  have t5 : s4 = (if kind = 10 then enc r5.1.length ++ r5.1 else []) ++ r5.2.1 ∧ Bytes r5.1 := by
    by_cases k : kind = 10
    · rw [if_pos k] at e5 ⊢
      rw [e5] at h ⊢
      obtain ⟨a1, a2, a3⟩ := rbytes_ok t4.2.2 h
      exact ⟨a1, a2⟩
    · rw [if_neg k] at e5 ⊢
      rw [e5]
      exact ⟨rfl, by simp [Bytes]⟩
  obtain ⟨bytes, s5, f5⟩ := r5
  simp only at *
  have hkw : (-9223372036854775808 ≤ kind ∧ kind ≤ 9223372036854775807) ∧ (-9223372036854775808 ≤ who ∧ who ≤ 9223372036854775807) := by
    have := g2.1; have := p2.1; omega
  refine ⟨?_, hkw.1, hkw.2, getD_u64 abc q2 0, getD_u64 abc q2 1, getD_u64 abc q2 2, t4.2.1, t5.2⟩
  unfold encC encT
  simp only
  rw [h3, g1, p1, q1, t4.1, t5.1]
  by_cases k6 : kind = 6
  · subst k6
    simp [encL]
  · by_cases k10 : kind = 10
    · subst k10
      simp
    · simp [k6, k10]
/-- Decoding: just the bytes of formed calls. -/
theorem decC_iff {l : List Int} (hb : Bytes l) (x : C7) : decC l = (x, 0) ↔ x.ok ∧ formedC x = true ∧ encC x = l := by
  constructor
  · intro h
    unfold decC at h
    simp only at h
    split at h
    · simp at h
    · rename_i hc
      simp only [not_or, Bool.not_eq_true, Nat.not_lt, Nat.le_zero] at hc
      simp only [Prod.mk.injEq, and_true] at h
      obtain ⟨h1, h2, h3⟩ := hc
      have hf : formedC (readC l).1 = true := by simpa using h3
      obtain ⟨g1, g2⟩ := readC_ok hb h1 hf
      rw [List.eq_nil_of_length_eq_zero h2, List.append_nil] at g1
      rw [h] at g1 g2 hf
      exact ⟨g2, hf, g1.symm⟩
  · rintro ⟨h1, h2, rfl⟩
    unfold decC
    have := readC_enc h1 h2 []
    rw [List.append_nil] at this
    rw [this]
    simp [h2]
theorem decC_err (l : List Int) : (decC l).2 = 0 ∨ decC l = (c7zero, 2) := by
  unfold decC
  simp only
  split
  · exact Or.inr rfl
  · exact Or.inl rfl
/-- Of two formed calls none's bytes begin with the other's. -/
theorem encC_prefix {x y : C7} (hx : x.ok) (fx : formedC x = true) (hy : y.ok) (fy : formedC y = true) {r s : List Int} (h : encC x ++ r = encC y ++ s) : x = y ∧ r = s := by
  have h1 := readC_enc hx fx r
  have h2 := readC_enc hy fy s
  rw [h, h2] at h1
  simp only [Prod.mk.injEq, and_true] at h1
  exact ⟨h1.1.symm, h1.2.symm⟩
theorem formedC_zero : formedC c7zero = false := by decide
theorem encC_bytes {x : C7} (h : x.ok) : Bytes (encC x) := by
  unfold encC encT
  refine (((enc_bytes _).append (enc_bytes _)).append (encs_bytes _)).append ?_
  split
  · exact encL_bytes _
  · split
    · exact (enc_bytes _).append h.2.2.2.2.2.2
    · simp [Bytes]
theorem decC_cut {x : C7} (hx : x.ok) (fx : formedC x = true) (k : Nat) (hk : k < (encC x).length) : decC ((encC x).take k) = (c7zero, 2) := by
  rcases decC_err ((encC x).take k) with h | h
  · exfalso
    have h2 := (decC_iff ((encC_bytes hx).take k) (decC ((encC x).take k)).1).1 (by rw [← h])
    obtain ⟨a1, a2, a3⟩ := h2
    have h4 : encC x ++ [] = encC (decC ((encC x).take k)).1 ++ (encC x).drop k := by rw [a3, List.append_nil, List.take_append_drop]
    have h5 := (encC_prefix hx fx a1 a2 h4).2
    have h6 := congrArg List.length h5
    rw [List.length_drop] at h6
    simp at h6
    omega
  · exact h
theorem decC_more {x : C7} (hx : x.ok) (fx : formedC x = true) (b : Int) (hb : 0 ≤ b ∧ b ≤ 255) : decC (encC x ++ [b]) = (c7zero, 2) := by
  have hbb : Bytes (encC x ++ [b]) := (encC_bytes hx).append (by intro y hy; simp at hy; subst hy; exact hb)
  rcases decC_err (encC x ++ [b]) with h | h
  · exfalso
    obtain ⟨a1, a2, a3⟩ := (decC_iff hbb (decC (encC x ++ [b])).1).1 (by rw [← h])
    have h4 : encC x ++ [b] = encC (decC (encC x ++ [b])).1 ++ [] := by rw [a3, List.append_nil]
    have h5 := (encC_prefix hx fx a1 a2 h4).2
    simp at h5
  · exact h
end Go.Ps
