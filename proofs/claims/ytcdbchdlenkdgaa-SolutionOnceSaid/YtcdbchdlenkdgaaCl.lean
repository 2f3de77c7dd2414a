/- Compact numbers: lists of them (plain Lean, no program in sight). -/
import Derived.Test.YtcdbchdlenkdgaaCx
set_option linter.unusedVariables false
set_option linter.unusedSimpArgs false
namespace Go.Ps

def encs : List Int → List Int
  | [] => []
  | n :: l => enc n ++ encs l
def encL (l : List Int) : List Int := enc l.length ++ encs l
theorem encs_append : ∀ (l m : List Int), encs (l ++ m) = encs l ++ encs m
  | [], m => rfl
  | n :: l, m => by simp [encs, encs_append l m]
theorem encs_snoc (l : List Int) (n : Int) : encs (l ++ [n]) = encs l ++ enc n := by simp [encs_append, encs]
theorem encs_bytes : ∀ (l : List Int), Bytes (encs l)
  | [] => by simp [Bytes, encs]
  | n :: l => (enc_bytes n).append (encs_bytes l)
theorem encL_bytes (l : List Int) : Bytes (encL l) := (enc_bytes _).append (encs_bytes _)
theorem encs_length : ∀ (l : List Int), (encs l).length ≤ 9 * l.length
  | [] => by simp [encs]
  | n :: l => by
    have := encs_length l
    have h := csz_le n
    simp only [encs, List.length_append, enc_length, List.length_cons]
    omega
theorem encL_length (l : List Int) : (encL l).length ≤ 9 * l.length + 9 := by
  have := encs_length l
  have h := csz_le l.length
  simp only [encL, List.length_append, enc_length]
  omega
theorem encs_take (l : List Int) (k : Nat) (h : k < l.length) : encs (l.take (k + 1)) = encs (l.take k) ++ enc (l.getD k 0) := by
  rw [← encs_snoc]
  congr 1
  rw [List.take_add_one, List.getElem?_eq_getElem h, List.getD_eq_getElem?_getD, List.getElem?_eq_getElem h]
  rfl
theorem encs_take_length (l : List Int) (k : Nat) : (encs (l.take k)).length ≤ 9 * k := by
  have h := encs_length (l.take k)
  have := List.length_take_le k l
  omega

/-! ### taking a list -/
/-- k more numbers, from 'at' on; what was taken is acc. -/
def tks (l : List Int) : Nat → Nat → List Int → List Int × Int × Int
  | 0, i, acc => (acc, i, 0)
  | n + 1, i, acc => if (tk (l.drop i)).2.2 = 0 then tks l n (i + (tk (l.drop i)).2.1.toNat) (acc ++ [(tk (l.drop i)).1]) else ([], 0, (tk (l.drop i)).2.2)
def tkl (l : List Int) (most : Int) : List Int × Int × Int :=
  if (tk l).2.2 = 0 then (if most < 0 ∨ most < (tk l).1 then ([], 0, 4) else tks l (tk l).1.toNat (tk l).2.1.toNat []) else ([], 0, (tk l).2.2)
theorem valB_u64 {l : List Int} (hb : Bytes l) (h : l.length ≤ 8) : U64' (valB l) := by
  have h1 := valB_nonneg hb
  have h2 := valB_lt hb
  generalize valB l = v at *
  generalize l.length = m at *
  have : m = 0 ∨ m = 1 ∨ m = 2 ∨ m = 3 ∨ m = 4 ∨ m = 5 ∨ m = 6 ∨ m = 7 ∨ m = 8 := by omega
  refine ⟨h1, ?_⟩
  rcases this with rfl | rfl | rfl | rfl | rfl | rfl | rfl | rfl | rfl <;> (simp at h2; omega)
theorem rawN_u64 {l : List Int} (hb : Bytes l) (k : Nat) (h : k ≤ 9) (hlen : 9 ≤ k → l.getD 0 0 % 4 = 3) : U64' (rawN l k) := by
  unfold rawN
  split
  · exact valB_u64 ((hb.take k).drop 1) (by rw [List.length_drop, List.length_take]; omega)
  · rename_i h3
    have hk : k ≤ 8 := Nat.le_of_not_lt fun h9 => h3 (hlen (by omega))
    obtain ⟨h1, h2⟩ := valB_u64 (hb.take k) (by rw [List.length_take]; omega)
    exact ⟨by omega, by omega⟩
/-- What is taken: a number, and how many bytes; the error is one of three. -/
theorem tk_facts {l : List Int} (hb : Bytes l) : ((tk l).2.2 = 0 ∧ U64' (tk l).1 ∧ 1 ≤ (tk l).2.1 ∧ (tk l).2.1 ≤ 9 ∧ (tk l).2.1 ≤ l.length ∧ enc (tk l).1 = l.take (tk l).2.1.toNat) ∨ ((tk l).2.2 = 2 ∨ (tk l).2.2 = 5) ∧ (tk l).1 = 0 ∧ (tk l).2.1 = 0 := by
  by_cases h0 : l.length = 0
  · right
    unfold tk
    rw [if_pos h0]
    simp
  · have hp := clen_pos (l.getD 0 0)
    by_cases h9 : 9 < clen (l.getD 0 0)
    · right
      unfold tk
      rw [if_neg h0]
      simp only
      rw [if_pos h9]
      simp
    · by_cases hl : l.length < clen (l.getD 0 0)
      · right
        unfold tk
        rw [if_neg h0]
        simp only
        rw [if_neg h9, if_pos hl]
        simp
      · by_cases hc : csz (rawN l (clen (l.getD 0 0))) = clen (l.getD 0 0)
        · left
          have e : tk l = (rawN l (clen (l.getD 0 0)), (clen (l.getD 0 0) : Int), 0) := by
            unfold tk
            rw [if_neg h0]
            simp only
            rw [if_neg h9, if_neg hl, if_pos hc]
          rw [e]
          refine ⟨rfl, rawN_u64 hb _ (by omega) ?_, by simp only; omega, by simp only; omega, by simp only; omega, ?_⟩
          · intro h
            unfold clen at h
            (repeat' split at h) <;> omega
          · exact (enc_iff hb (by omega) (by omega) (by omega)).1 hc
        · right
          unfold tk
          rw [if_neg h0]
          simp only
          rw [if_neg h9, if_neg hl, if_neg hc]
          simp
theorem tk_nil : tk [] = (0, 0, 5) := rfl
end Go.Ps
