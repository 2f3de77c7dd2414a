/- Marks: the plain law: bytes and sets of numbers. -/
import Derived.Test.YtaifgalpeaaliaaOf
set_option linter.unusedVariables false
set_option linter.unusedSimpArgs false
namespace Go.Proofs.Ytaifgalpeaaliaa
open Go.RowKit Go.Ps

theorem and_table : ∀ y : Fin 256, ∀ t : Fin 8, (bits .and .u8 ((y.val : Int) / 2 ^ t.val) 1 == 1) = y.val.testBit t.val := by decide +kernel
theorem or_table : ∀ y : Fin 256, ∀ t : Fin 8, ∀ s : Fin 8, (bits .or .u8 (y.val : Int) (2 ^ t.val % 256)).toNat.testBit s.val = (y.val.testBit s.val || decide (s.val = t.val)) := by decide +kernel

theorem bit_and {y : Int} (h : isByte y) {t : Nat} (ht : t < 8) : (bits .and .u8 (y / 2 ^ t) 1 == 1) = y.toNat.testBit t := by
  obtain ⟨h0, h1⟩ := h
  have := and_table ⟨y.toNat, by omega⟩ ⟨t, ht⟩
  simp only at this
  rw [← this]
  have e : ((y.toNat : Nat) : Int) = y := by omega
  rw [e]
theorem bit_or {y : Int} (h : isByte y) {t s : Nat} (ht : t < 8) (hs : s < 8) : (bits .or .u8 y (2 ^ t % 256)).toNat.testBit s = (y.toNat.testBit s || decide (s = t)) := by
  obtain ⟨h0, h1⟩ := h
  have := or_table ⟨y.toNat, by omega⟩ ⟨t, ht⟩ ⟨s, hs⟩
  simp only at this
  rw [← this]
  have e : ((y.toNat : Nat) : Int) = y := by omega
  rw [e]

def bitN (l : List Int) (j t : Nat) : Bool := (l.getD j 0).toNat.testBit t
theorem getD_byte {l : List Int} (h : ∀ x ∈ l, isByte x) (j : Nat) : isByte (l.getD j 0) := by
  rw [List.getD_eq_getElem?_getD]
  by_cases hj : j < l.length
  · rw [List.getElem?_eq_getElem hj]; exact h _ (List.getElem_mem hj)
  · rw [List.getElem?_eq_none (by omega)]; exact ⟨by simp, by simp⟩
theorem bitOf_eq {l : List Int} (h : ∀ x ∈ l, isByte x) (k : Nat) : bitOf l k = bitN l (k / 8) (k % 8) := by
  unfold bitOf bitN rdI
  have e8 : ((k : Int) / 8).toNat = k / 8 := by omega
  have m8 : ((k : Int) % 8).toNat = k % 8 := by omega
  rw [e8, m8, bit_and (getD_byte h _) (by omega)]
theorem bitN_set {l : List Int} (h : ∀ x ∈ l, isByte x) (k j t : Nat) (hk : k / 8 < l.length) (ht : t < 8) : bitN (setBs l k) j t = (bitN l j t || decide (8 * j + t = k)) := by
  unfold setBs bitN rdI
  have e8 : ((k : Int) / 8).toNat = k / 8 := by omega
  have m8 : ((k : Int) % 8).toNat = k % 8 := by omega
  rw [e8, m8]
  simp only [List.getD_eq_getElem?_getD, List.getElem?_set]
  by_cases hj : k / 8 = j
  · subst hj
    rw [if_pos rfl, if_pos hk]
    have hb := getD_byte h (k / 8)
    rw [List.getD_eq_getElem?_getD] at hb
    simp only [Option.getD_some]
    rw [bit_or hb (by omega) ht]
    congr 1
    rw [decide_eq_decide]
    omega
  · rw [if_neg hj]
    have : decide (8 * j + t = k) = false := by simp; omega
    rw [this, Bool.or_false]
theorem bytes_ext {l m : List Int} (hl : ∀ x ∈ l, isByte x) (hm : ∀ x ∈ m, isByte x) (hlen : l.length = m.length) (h : ∀ j t, j < l.length → t < 8 → bitN l j t = bitN m j t) : l = m := by
  apply List.ext_getElem hlen
  intro j h1 h2
  have b1 := hl _ (List.getElem_mem h1)
  have b2 := hm _ (List.getElem_mem h2)
  unfold isByte at b1 b2
  have : l[j].toNat = m[j].toNat := by
    apply Nat.eq_of_testBit_eq
    intro t
    by_cases ht : t < 8
    · have := h j t h1 ht
      simpa [bitN, h1, h2] using this
    · rw [Nat.testBit_lt_two_pow (show l[j].toNat < 2 ^ t from Nat.lt_of_lt_of_le (by omega : l[j].toNat < 2 ^ 8) (Nat.pow_le_pow_right (by omega) (by omega))), Nat.testBit_lt_two_pow (show m[j].toNat < 2 ^ t from Nat.lt_of_lt_of_le (by omega : m[j].toNat < 2 ^ 8) (Nat.pow_le_pow_right (by omega) (by omega)))]
  omega

theorem rb_bits (size : Int) (ps : List (Int × Value)) (h0 : 0 ≤ size) : ∀ (k : Nat), (k : Int) ≤ size → ∀ j t, j < (rb size ps k).length → t < 8 → bitN (rb size ps k) j t = (decide (8 * j + t < k) && IM.has ps ((8 * j + t : Nat) : Int))
  | 0, _, j, t, hj, ht => by
    simp only [rb, newBytes] at hj ⊢
    simp only [List.length_replicate] at hj
    simp [bitN, hj]
  | k + 1, hk, j, t, hj, ht => by
    have ih := rb_bits size ps h0 k (by omega) j t (by rw [rb_len] at hj ⊢; exact hj) ht
    simp only [rb]
    split
    · rename_i hh
      rw [bitN_set (rb_byte _ _ _) k j t (by rw [rb_len]; omega) ht, ih]
      by_cases e : 8 * j + t = k
      · rw [e, hh]; simp
      · have e1 : decide (8 * j + t < k + 1) = decide (8 * j + t < k) := by rw [decide_eq_decide]; omega
        rw [e1]
        simp [e]
    · rename_i hh
      rw [Bool.not_eq_true] at hh
      rw [ih]
      by_cases e : 8 * j + t = k
      · rw [e, hh]; simp
      · have e1 : decide (8 * j + t < k + 1) = decide (8 * j + t < k) := by rw [decide_eq_decide]; omega
        rw [e1]

/-- The pairs' keys lie within the size, each once. -/
def csum (ps : List (Int × Value)) : Nat → Nat
  | 0 => 0
  | n + 1 => csum ps n + if IM.has ps n then 1 else 0
structure GoodPs (size : Int) (ps : List (Int × Value)) : Prop where
  within : ∀ k, IM.has ps k = true → 0 ≤ k ∧ k < size
  count : ps.length = csum ps size.toNat
theorem csum_upd (k : Nat) (v : Value) (ps : List (Int × Value)) (h : IM.has ps k = false) : ∀ n, csum (IM.upd k v ps) n = csum ps n + if k < n then 1 else 0
  | 0 => by simp [csum]
  | n + 1 => by
    simp only [csum, csum_upd k v ps h n, IM.has_upd]
    by_cases e : n = k
    · subst e; simp [h]
    · have e2 : ¬ ((n : Int) = k) := by omega
      simp only [e2, decide_false, Bool.false_or]
      by_cases e3 : k < n
      · have : k < n + 1 := by omega
        simp only [e3, this, if_true]
        omega
      · have : ¬ k < n + 1 := by omega
        simp only [e3, this, if_false]
        omega
theorem GoodPs.nil (size : Int) : GoodPs size [] := ⟨fun k h => by simp [IM.has_nil] at h, by
  have : ∀ n, csum [] n = 0 := fun n => by
    induction n with
    | zero => rfl
    | succ n ih => simp [csum, ih, IM.has_nil]
  rw [this]
  rfl⟩
theorem GoodPs.put {size : Int} {ps : List (Int × Value)} (h : GoodPs size ps) {k : Int} (h0 : 0 ≤ k) (h1 : k < size) (hn : IM.has ps k = false) (v : Value) : GoodPs size (IM.upd k v ps) := by
  obtain ⟨n, rfl⟩ : ∃ n : Nat, k = n := ⟨k.toNat, by omega⟩
  refine ⟨fun j hj => ?_, ?_⟩
  · rw [IM.has_upd, Bool.or_eq_true] at hj
    rcases hj with hj | hj
    · simp at hj; omega
    · exact h.within j hj
  · have hlt : n < size.toNat := by omega
    rw [IM.length_upd, csum_upd n v ps hn, h.count]
    simp [hn, hlt]

/-- The program's marks and the document's are the same. -/
structure Same (size : Int) (bs : List Int) (ps : List (Int × Value)) : Prop where
  byte : ∀ x ∈ bs, isByte x
  len : (bs.length : Int) = (size + 7) / 8
  bit : ∀ j t, j < bs.length → t < 8 → bitN bs j t = (decide (((8 * j + t : Nat) : Int) < size) && IM.has ps ((8 * j + t : Nat) : Int))
  good : GoodPs size ps
theorem Same.has {size : Int} {bs : List Int} {ps : List (Int × Value)} (h : Same size bs ps) (i : Int) : hasB size bs i = IM.has ps i := by
  unfold hasB
  by_cases h0 : 0 ≤ i ∧ i < size
  · obtain ⟨n, rfl⟩ : ∃ n : Nat, i = n := ⟨i.toNat, by omega⟩
    rw [decide_eq_true h0, Bool.true_and, bitOf_eq h.byte, h.bit _ _ (by have := h.len; omega) (by omega)]
    have e : 8 * (n / 8) + n % 8 = n := by omega
    rw [e, decide_eq_true h0.2, Bool.true_and]
  · rw [decide_eq_false h0, Bool.false_and]
    cases hh : IM.has ps i
    · rfl
    · exact absurd (h.good.within i hh) h0
theorem Same.count {size : Int} {bs : List Int} {ps : List (Int × Value)} (h : Same size bs ps) : cnt size bs size.toNat = ps.length := by
  rw [h.good.count]
  have : ∀ n, cnt size bs n = csum ps n := fun n => by
    induction n with
    | zero => rfl
    | succ n ih => simp only [cnt, csum, ih, h.has]; split <;> simp
  exact this _
theorem Same.bytes {size : Int} {bs : List Int} {ps : List (Int × Value)} (h : Same size bs ps) (h0 : 0 ≤ size) : rb size ps size.toNat = bs := by
  have hlen : (rb size ps size.toNat).length = bs.length := by rw [rb_len]; have := h.len; omega
  refine bytes_ext (rb_byte _ _ _) h.byte hlen fun j t hj ht => ?_
  rw [rb_bits size ps h0 _ (by omega) j t hj ht, h.bit j t (by omega) ht]
  congr 1
  rw [decide_eq_decide]
  omega

/-! ### a mark is set -/
theorem Same.start (size : Int) (h0 : 0 ≤ size) : Same size (newBytes size) [] := by
  refine ⟨fun x hx => ?_, by simp [newBytes]; omega, fun j t hj ht => ?_, GoodPs.nil size⟩
  · simp only [newBytes, List.mem_replicate] at hx
    rw [hx.2]
    exact ⟨by omega, by omega⟩
  · simp only [newBytes, List.length_replicate] at hj
    simp [bitN, newBytes, hj, IM.has_nil]
theorem Same.code {size : Int} {bs : List Int} {ps : List (Int × Value)} (h : Same size bs ps) (i : Int) : setCode size bs i = rsetCode size ps i := by
  unfold setCode rsetCode
  by_cases h0 : i < 0 ∨ size ≤ i
  · rw [if_pos h0, if_pos h0]
  · rw [if_neg h0, if_neg h0, ← h.has i, hasB, decide_eq_true (show 0 ≤ i ∧ i < size by omega), Bool.true_and]
theorem Same.set {size : Int} {bs : List Int} {ps : List (Int × Value)} (h : Same size bs ps) (i : Int) : Same size (setAfter size bs i) (rsetAfter size ps i) := by
  unfold setAfter rsetAfter
  rw [h.code i]
  by_cases hc : rsetCode size ps i = 0
  · rw [if_pos hc, if_pos hc]
    have h0 : 0 ≤ i ∧ i < size := by
      unfold rsetCode at hc
      split at hc
      · omega
      · omega
    have hn : IM.has ps i = false := by
      unfold rsetCode at hc
      rw [if_neg (by omega)] at hc
      split at hc
      · omega
      · rename_i hh; simpa using hh
    obtain ⟨n, rfl⟩ : ∃ n : Nat, i = n := ⟨i.toNat, by omega⟩
    have hl := h.len
    refine ⟨setBs_byte h.byte _, by simp [setBs]; exact hl, fun j t hj ht => ?_, h.good.put h0.1 h0.2 hn _⟩
    rw [bitN_set h.byte n j t (by omega) ht, h.bit j t (by simpa [setBs] using hj) ht, IM.has_upd]
    by_cases e : 8 * j + t = n
    · rw [e, decide_eq_true h0.2]
      simp
    · have e2 : ¬ (((8 * j + t : Nat) : Int) = (n : Int)) := by omega
      simp only [e, e2, decide_false, Bool.or_false, Bool.false_or]
  · rw [if_neg hc, if_neg hc]
    exact h

/-! ### of bytes -/
theorem ofPs_has (size : Int) (l : List Int) : ∀ (k : Nat) (i : Int), IM.has (ofPs size l k) i = (decide (0 ≤ i ∧ i < k ∧ i < size) && bitOf l i)
  | 0, i => by
    have : decide (0 ≤ i ∧ i < ((0 : Nat) : Int) ∧ i < size) = false := by simp; omega
    rw [this]
    simp [ofPs, IM.has_nil]
  | k + 1, i => by
    simp only [ofPs]
    by_cases hh : (k : Int) < size ∧ bitOf l k = true
    · rw [if_pos hh, IM.has_upd, ofPs_has size l k i]
      by_cases e : i = k
      · subst e
        have e3 : decide (0 ≤ (k : Int) ∧ (k : Int) < ((k + 1 : Nat) : Int) ∧ (k : Int) < size) = true := by rw [decide_eq_true_iff]; omega
        rw [e3, hh.2]
        simp
      · have e1 : decide (0 ≤ i ∧ i < ((k + 1 : Nat) : Int) ∧ i < size) = decide (0 ≤ i ∧ i < (k : Int) ∧ i < size) := by rw [decide_eq_decide]; omega
        rw [e1]
        simp [e]
    · rw [if_neg hh, ofPs_has size l k i]
      by_cases e : i = k
      · subst e
        by_cases h2 : (k : Int) < size
        · have h3 : bitOf l k = false := by
            cases hb : bitOf l k
            · rfl
            · exact absurd ⟨h2, hb⟩ hh
          rw [h3]
          simp
        · have e1 : decide (0 ≤ (k : Int) ∧ (k : Int) < ((k + 1 : Nat) : Int) ∧ (k : Int) < size) = false := by simp; omega
          have e2 : decide (0 ≤ (k : Int) ∧ (k : Int) < (k : Int) ∧ (k : Int) < size) = false := by simp
          rw [e1, e2]
      · have e1 : decide (0 ≤ i ∧ i < ((k + 1 : Nat) : Int) ∧ i < size) = decide (0 ≤ i ∧ i < (k : Int) ∧ i < size) := by rw [decide_eq_decide]; omega
        rw [e1]
theorem ofPs_good (size : Int) (l : List Int) : ∀ k, GoodPs size (ofPs size l k)
  | 0 => GoodPs.nil size
  | k + 1 => by
    simp only [ofPs]
    by_cases hh : (k : Int) < size ∧ bitOf l k = true
    · rw [if_pos hh]
      refine (ofPs_good size l k).put (by omega) hh.1 ?_ _
      rw [ofPs_has]
      have : decide (0 ≤ (k : Int) ∧ (k : Int) < (k : Int) ∧ (k : Int) < size) = false := by simp
      rw [this, Bool.false_and]
    · rw [if_neg hh]
      exact ofPs_good size l k

/-- No bit beyond the size. -/
theorem tail_bits {size : Int} {l : List Int} (hb : ∀ x ∈ l, isByte x) (h0 : 0 ≤ size) (hlen : (l.length : Int) = (size + 7) / 8) (h : ¬ (size % 8 ≠ 0 ∧ tailBad size l = true)) :
    ∀ j t, j < l.length → t < 8 → size ≤ ((8 * j + t : Nat) : Int) → bitN l j t = false := by
  intro j t hj ht hge
  have hj2 : j = l.length - 1 := by omega
  have h8 : size % 8 ≠ 0 := by omega
  have hz : tailBad size l = false := by
    cases hh : tailBad size l
    · rfl
    · exact absurd ⟨h8, hh⟩ h
  unfold tailBad at hz
  rw [bne_eq_false_iff_eq] at hz
  have e1 : ((l.length : Int) - 1).toNat = j := by omega
  unfold rdI at hz
  rw [e1] at hz
  have hby := getD_byte hb j
  unfold isByte at hby
  unfold bitN
  have e2 : (l.getD j 0).toNat / 2 ^ (size % 8).toNat = 0 := by
    have : (((l.getD j 0).toNat / 2 ^ (size % 8).toNat : Nat) : Int) = l.getD j 0 / 2 ^ (size % 8).toNat := by
      rw [Int.natCast_ediv]
      congr 1
      · omega
    omega
  have hlt : (l.getD j 0).toNat < 2 ^ (size % 8).toNat := by
    have := Nat.div_eq_zero_iff.1 e2
    rcases this with h | h
    · exact absurd h (by have := Nat.two_pow_pos (size % 8).toNat; omega)
    · exact h
  exact Nat.testBit_lt_two_pow (Nat.lt_of_lt_of_le hlt (Nat.pow_le_pow_right (by omega) (by omega)))

theorem of_same {size : Int} {l : List Int} (hb : ∀ x ∈ l, isByte x) (h : pofCode size l = 0) : Same size l (ofPs size l (8 * l.length)) ∧ ofCode size l = 0 := by
  have h1 : ¬ (size < 0 ∨ 4096 < size) := fun h1 => by rw [pofCode, if_pos h1] at h; omega
  have h2 : ¬ ((l.length : Int) ≠ (size + 7) / 8 ∨ (size % 8 ≠ 0 ∧ tailBad size l = true)) := fun h2 => by rw [pofCode, if_neg h1, if_pos h2] at h; omega
  have hlen : (l.length : Int) = (size + 7) / 8 := by omega
  have hs : Same size l (ofPs size l (8 * l.length)) := by
    refine ⟨hb, hlen, fun j t hj ht => ?_, ofPs_good size l _⟩
    rw [ofPs_has]
    by_cases hlt : ((8 * j + t : Nat) : Int) < size
    · rw [decide_eq_true hlt, decide_eq_true (show 0 ≤ ((8 * j + t : Nat) : Int) ∧ ((8 * j + t : Nat) : Int) < ((8 * l.length : Nat) : Int) ∧ ((8 * j + t : Nat) : Int) < size by omega), Bool.true_and, Bool.true_and, bitOf_eq hb]
      have e1 : (8 * j + t) / 8 = j := by omega
      have e2 : (8 * j + t) % 8 = t := by omega
      rw [e1, e2]
    · rw [decide_eq_false hlt, Bool.false_and]
      exact tail_bits hb (by omega) hlen (fun hh => h2 (Or.inr hh)) j t hj ht (by omega)
  refine ⟨hs, ?_⟩
  rw [ofCode, if_neg h1, if_pos (hs.bytes (by omega))]
theorem of_code {size : Int} {l : List Int} (hb : ∀ x ∈ l, isByte x) : pofCode size l = ofCode size l := by
  by_cases h0 : pofCode size l = 0
  · rw [h0, (of_same hb h0).2]
  · have h0' := h0
    unfold pofCode at h0 ⊢
    unfold ofCode
    by_cases h1 : size < 0 ∨ 4096 < size
    · rw [if_pos h1, if_pos h1]
    · rw [if_neg h1] at h0 ⊢
      rw [if_neg h1]
      by_cases h2 : (l.length : Int) ≠ (size + 7) / 8 ∨ (size % 8 ≠ 0 ∧ tailBad size l = true)
      · rw [if_pos h2, if_neg]
        intro hq
        rcases h2 with h2 | ⟨h2, h3⟩
        · have := congrArg List.length hq
          rw [rb_len] at this
          omega
        · have hlen : (l.length : Int) = (size + 7) / 8 := by
            have := congrArg List.length hq
            rw [rb_len] at this
            omega
          have hj : l.length - 1 < l.length := by omega
          have hzero : (l.getD (l.length - 1) 0).toNat < 2 ^ (size % 8).toNat := by
            apply Nat.lt_pow_two_of_testBit
            intro t ht
            by_cases h8 : t < 8
            · have hbit := rb_bits size (ofPs size l (8 * l.length)) (by omega) size.toNat (by omega) (l.length - 1) t (by rw [rb_len]; omega) h8
              rw [hq] at hbit
              unfold bitN at hbit
              rw [hbit]
              have : decide (8 * (l.length - 1) + t < size.toNat) = false := by simp; omega
              rw [this, Bool.false_and]
            · have hby := getD_byte hb (l.length - 1)
              unfold isByte at hby
              exact Nat.testBit_lt_two_pow (Nat.lt_of_lt_of_le (by omega : (l.getD (l.length - 1) 0).toNat < 2 ^ 8) (Nat.pow_le_pow_right (by omega) (by omega)))
          unfold tailBad rdI at h3
          have e1 : ((l.length : Int) - 1).toNat = l.length - 1 := by omega
          rw [e1] at h3
          have hby := getD_byte hb (l.length - 1)
          unfold isByte at hby
          have : l.getD (l.length - 1) 0 / 2 ^ (size % 8).toNat = 0 := by
            have e2 : (((l.getD (l.length - 1) 0).toNat / 2 ^ (size % 8).toNat : Nat) : Int) = l.getD (l.length - 1) 0 / 2 ^ (size % 8).toNat := by
              rw [Int.natCast_ediv]
              congr 1
              · omega
            rw [← e2, Nat.div_eq_of_lt hzero]
            rfl
          rw [this] at h3
          simp at h3
      · rw [if_neg h2] at h0
        exact absurd rfl h0

theorem Same.pof {size : Int} {bs : List Int} {ps : List (Int × Value)} (h : Same size bs ps) (h0 : 0 ≤ size) (h1 : size ≤ 4096) : pofCode size bs = 0 := by
  rw [pofCode, if_neg (by omega), if_neg]
  intro hx
  rcases hx with hx | ⟨h8, hx⟩
  · exact hx h.len
  · have hlen := h.len
    have hj : bs.length - 1 < bs.length := by omega
    have hzero : (bs.getD (bs.length - 1) 0).toNat < 2 ^ (size % 8).toNat := by
      apply Nat.lt_pow_two_of_testBit
      intro t ht
      by_cases h8 : t < 8
      · have hbit := h.bit (bs.length - 1) t hj h8
        unfold bitN at hbit
        rw [hbit]
        have : decide (((8 * (bs.length - 1) + t : Nat) : Int) < size) = false := by simp; omega
        rw [this, Bool.false_and]
      · have hby := getD_byte h.byte (bs.length - 1)
        unfold isByte at hby
        exact Nat.testBit_lt_two_pow (Nat.lt_of_lt_of_le (by omega : (bs.getD (bs.length - 1) 0).toNat < 2 ^ 8) (Nat.pow_le_pow_right (by omega) (by omega)))
    unfold tailBad rdI at hx
    have e1 : ((bs.length : Int) - 1).toNat = bs.length - 1 := by omega
    rw [e1] at hx
    have hby := getD_byte h.byte (bs.length - 1)
    unfold isByte at hby
    have : bs.getD (bs.length - 1) 0 / 2 ^ (size % 8).toNat = 0 := by
      have e2 : (((bs.getD (bs.length - 1) 0).toNat / 2 ^ (size % 8).toNat : Nat) : Int) = bs.getD (bs.length - 1) 0 / 2 ^ (size % 8).toNat := by
        rw [Int.natCast_ediv]
        congr 1
        omega
      rw [← e2, Nat.div_eq_of_lt hzero]
      rfl
    rw [this] at hx
    simp at hx
end Go.Proofs.Ytaifgalpeaaliaa
