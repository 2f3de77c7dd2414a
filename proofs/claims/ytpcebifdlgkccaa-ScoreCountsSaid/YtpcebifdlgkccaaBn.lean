/- Numbers as limbs of 32 bits (plain Lean, no program in sight). -/
import Derived.Test.YtpcebifdlgkccaaK2
set_option linter.unusedVariables false
set_option linter.unusedSimpArgs false
namespace Go.Ps
def BB : Int := 4294967296
def valN : List Int → Int
  | [] => 0
  | x :: l => x + 4294967296 * valN l
def Dig (l : List Int) : Prop := ∀ x ∈ l, 0 ≤ x ∧ x < 4294967296
def trimL : List Int → List Int
  | [] => []
  | x :: l => if trimL l = [] then (if x = 0 then [] else [x]) else x :: trimL l
theorem Dig.cons {x : Int} {l : List Int} (h : Dig (x :: l)) : (0 ≤ x ∧ x < 4294967296) ∧ Dig l := ⟨h x (by simp), fun y hy => h y (by simp [hy])⟩
theorem Dig.getD {l : List Int} (h : Dig l) (i : Nat) : 0 ≤ l.getD i 0 ∧ l.getD i 0 < 4294967296 := by
  rw [List.getD_eq_getElem?_getD]
  cases hg : l[i]? with
  | none => simp
  | some y => exact h y (List.mem_of_getElem? hg)
theorem Dig.take {l : List Int} (h : Dig l) (k : Nat) : Dig (l.take k) := fun x hx => h x (List.mem_of_mem_take hx)
theorem Dig.append {l m : List Int} (h : Dig l) (h2 : Dig m) : Dig (l ++ m) := fun x hx => (List.mem_append.1 hx).elim (h x) (h2 x)
theorem Dig.set {l : List Int} (h : Dig l) (i : Nat) {y : Int} (hy : 0 ≤ y ∧ y < 4294967296) : Dig (l.set i y) := fun x hx => by
  rcases List.mem_or_eq_of_mem_set hx with h1 | h1
  · exact h x h1
  · subst h1; exact hy
theorem Dig.rep (n : Nat) : Dig (List.replicate n 0) := fun x hx => by rw [List.eq_of_mem_replicate hx]; omega
theorem valN_nonneg : ∀ {l : List Int}, Dig l → 0 ≤ valN l
  | [], _ => Int.le_refl _
  | x :: l, h => by
    have h1 := h.cons.1
    have h2 := valN_nonneg h.cons.2
    unfold valN
    omega
theorem valN_append : ∀ (l m : List Int), valN (l ++ m) = valN l + 4294967296 ^ l.length * valN m
  | [], m => by simp [valN]
  | x :: l, m => by
    simp only [List.cons_append, valN, valN_append l m, List.length_cons, Int.pow_succ]
    grind
theorem valN_lt : ∀ {l : List Int}, Dig l → valN l < 4294967296 ^ l.length
  | [], _ => by simp [valN]
  | x :: l, h => by
    have h1 := h.cons.1
    have h2 := valN_lt h.cons.2
    simp only [valN, List.length_cons, Int.pow_succ]
    omega
theorem valN_rep (n : Nat) : valN (List.replicate n 0) = 0 := by
  induction n with
  | zero => rfl
  | succ n ih => rw [List.replicate_succ, valN, ih]; rfl
theorem valN_set : ∀ (l : List Int) (i : Nat) (y : Int), i < l.length → valN (l.set i y) = valN l + 4294967296 ^ i * (y - l.getD i 0)
  | [], i, y, h => by simp at h
  | x :: l, 0, y, h => by simp [valN]; omega
  | x :: l, i + 1, y, h => by
    simp only [List.set_cons_succ, valN, List.getD_cons_succ, valN_set l i y (by simpa using h), Int.pow_succ]
    grind
theorem take_snocN (l : List Int) (j : Nat) (h : j < l.length) : l.take (j + 1) = l.take j ++ [l.getD j 0] := by
  rw [List.take_succ_eq_append_getElem h, List.getD_eq_getElem?_getD, List.getElem?_eq_getElem h]; rfl
theorem valN_take_succ (l : List Int) (j : Nat) (h : j < l.length) : valN (l.take (j + 1)) = valN (l.take j) + 4294967296 ^ j * l.getD j 0 := by
  rw [take_snocN l j h, valN_append, List.length_take, Nat.min_eq_left (Nat.le_of_lt h)]
  simp [valN]
theorem valN_take_more (l : List Int) (j : Nat) (h : l.length ≤ j) : valN (l.take j) = valN l := by rw [List.take_of_length_le h]
theorem valN_trim : ∀ (l : List Int), valN (trimL l) = valN l
  | [] => rfl
  | x :: l => by
    have ih := valN_trim l
    unfold trimL
    by_cases h : trimL l = []
    · rw [if_pos h]
      rw [h] at ih
      simp only [valN] at ih ⊢
      rw [← ih]
      by_cases h0 : x = 0
      · rw [if_pos h0, h0]; rfl
      · rw [if_neg h0]; rfl
    · rw [if_neg h]
      simp only [valN, ih]
theorem trimL_dig : ∀ {l : List Int}, Dig l → Dig (trimL l)
  | [], h => h
  | x :: l, h => by
    have ih := trimL_dig h.cons.2
    unfold trimL
    split
    · split
      · exact fun y hy => by cases hy
      · exact fun y hy => by simp at hy; subst hy; exact h.cons.1
    · exact fun y hy => by
        rcases List.mem_cons.1 hy with rfl | hy
        · exact h.cons.1
        · exact ih y hy
theorem trimL_idem : ∀ (l : List Int), trimL (trimL l) = trimL l
  | [] => rfl
  | x :: l => by
    have ih := trimL_idem l
    by_cases h : trimL l = []
    · by_cases h0 : x = 0
      · simp [trimL, h, h0]
      · simp [trimL, h, h0]
    · have e : trimL (x :: l) = x :: trimL l := by simp [trimL, h]
      rw [e]
      show (if trimL (trimL l) = [] then _ else x :: trimL (trimL l)) = _
      rw [ih, if_neg h]
theorem trimL_tail {x : Int} {l : List Int} (h : trimL (x :: l) = x :: l) : trimL l = l := by
  unfold trimL at h
  split at h
  · rename_i h1
    split at h
    · cases h
    · simp at h
      rw [h1, h]
  · simp at h
    exact h
theorem trimL_zero {l : List Int} (hd : Dig l) (h : trimL l = l) (h0 : valN l = 0) : l = [] := by
  induction l with
  | nil => rfl
  | cons x l ih =>
    exfalso
    have hx := hd.cons.1
    have hv := valN_nonneg hd.cons.2
    unfold valN at h0
    have h1 : x = 0 := by omega
    have h2 : valN l = 0 := by omega
    have h3 := ih hd.cons.2 (trimL_tail h) h2
    subst h3
    subst h1
    simp [trimL] at h
/-- One number, one row of limbs. -/
theorem limb_unique : ∀ {l m : List Int}, Dig l → Dig m → trimL l = l → trimL m = m → valN l = valN m → l = m
  | [], m, _, hm, _, tm, h => (trimL_zero hm tm h.symm).symm
  | x :: l, [], hl, _, tl, _, h => trimL_zero hl tl h
  | x :: l, y :: m, hl, hm, tl, tm, h => by
    have hx := hl.cons.1
    have hy := hm.cons.1
    simp only [valN] at h
    have e1 : x = y := by omega
    have e2 : valN l = valN m := by omega
    rw [e1, limb_unique hl.cons.2 hm.cons.2 (trimL_tail tl) (trimL_tail tm) e2]
theorem trimL_low : ∀ {l : List Int} {k : Nat}, Dig l → trimL l = l → valN l < 4294967296 ^ k → l.length ≤ k
  | [], k, _, _, _ => Nat.zero_le _
  | x :: l, 0, hd, ht, h => by
    have := valN_nonneg hd
    have := trimL_zero hd ht (by simp at h; omega)
    cases this
  | x :: l, k + 1, hd, ht, h => by
    have hx := hd.cons.1
    simp only [valN, Int.pow_succ] at h
    have := trimL_low (k := k) hd.cons.2 (trimL_tail ht) (by omega)
    simp
    omega
/-- What trim finds: noughts from n on, none ahead of it. -/
theorem trimL_take : ∀ (l : List Int) (n : Nat), n ≤ l.length → (∀ j, n ≤ j → j < l.length → l.getD j 0 = 0) → (n = 0 ∨ l.getD (n - 1) 0 ≠ 0) → trimL l = l.take n
  | [], n, h, _, _ => by simp at h; subst h; rfl
  | x :: l, 0, h, hz, _ => by
    have ih := trimL_take l 0 (Nat.zero_le _) (fun j _ hj => by have := hz (j + 1) (by omega) (by simpa using hj); simpa using this) (.inl rfl)
    have h0 := hz 0 (Nat.le_refl _) (by simp)
    simp at h0
    simp [trimL, ih, h0]
  | x :: l, n + 1, h, hz, hn => by
    have ih := trimL_take l n (by simpa using h) (fun j hj hj2 => by have := hz (j + 1) (by omega) (by simpa using hj2); simpa using this) (by
      rcases Nat.eq_zero_or_pos n with e | e
      · exact .inl e
      · right
        have h1 := hn.resolve_left (by omega)
        obtain ⟨k, rfl⟩ : ∃ k, n = k + 1 := ⟨n - 1, by omega⟩
        simpa using h1)
    unfold trimL
    rw [ih]
    rcases Nat.eq_zero_or_pos n with e | e
    · subst e
      have h1 := hn.resolve_left (by omega)
      simp at h1
      simp [h1]
    · have hl : 0 < l.length := by simp at h; omega
      have hne : l.take n ≠ [] := by
        intro e2
        have := congrArg List.length e2
        rw [List.length_take, List.length_nil] at this
        omega
      rw [if_neg hne]
      simp
end Go.Ps
