/- The compact numbers: what their bytes are (plain Lean, no program in sight). -/
import Derived.Test.YtcdbchdlenkdgaaKit
import Derived.Lib.VarintBits
set_option linter.unusedVariables false
set_option linter.unusedSimpArgs false
namespace Go.Ps

/-- The lowest k bytes of n, the least first. -/
def dig : Nat → Int → List Int
  | 0, _ => []
  | k + 1, n => n % 256 :: dig k (n / 256)
def valB : List Int → Int
  | [] => 0
  | b :: l => b + 256 * valB l
def csz (n : Int) : Nat :=
  if n < 64 then 1 else if n < 16384 then 2 else if n < 1073741824 then 4 else if n < 4294967296 then 5 else if n < 1099511627776 then 6 else if n < 281474976710656 then 7 else if n < 72057594037927936 then 8 else 9
def enc (n : Int) : List Int :=
  if n < 64 then dig 1 (4 * n) else if n < 16384 then dig 2 (4 * n + 1) else if n < 1073741824 then dig 4 (4 * n + 2) else (((csz n : Int) - 5) * 4 + 3) :: dig (csz n - 1) n
def U64' (n : Int) : Prop := 0 ≤ n ∧ n < 18446744073709551616
def Bytes (l : List Int) : Prop := ∀ x ∈ l, 0 ≤ x ∧ x ≤ 255

theorem dig_length : ∀ (k : Nat) (n : Int), (dig k n).length = k
  | 0, _ => rfl
  | k + 1, n => by simp [dig, dig_length k]
theorem dig_bytes : ∀ (k : Nat) (n : Int), Bytes (dig k n)
  | 0, _ => by simp [Bytes, dig]
  | k + 1, n => by
    intro x hx
    simp only [dig, List.mem_cons] at hx
    rcases hx with rfl | hx
    · omega
    · exact dig_bytes k _ x hx
theorem Bytes.cons {b : Int} {l : List Int} (h : Bytes (b :: l)) : (0 ≤ b ∧ b ≤ 255) ∧ Bytes l := ⟨h b (by simp), fun x hx => h x (by simp [hx])⟩
theorem Bytes.take {l : List Int} (h : Bytes l) (k : Nat) : Bytes (l.take k) := fun x hx => h x (List.mem_of_mem_take hx)
theorem Bytes.drop {l : List Int} (h : Bytes l) (k : Nat) : Bytes (l.drop k) := fun x hx => h x (List.mem_of_mem_drop hx)
theorem Bytes.append {l m : List Int} (h : Bytes l) (h2 : Bytes m) : Bytes (l ++ m) := fun x hx => (List.mem_append.1 hx).elim (h x) (h2 x)
theorem valB_nonneg : ∀ {l : List Int}, Bytes l → 0 ≤ valB l
  | [], _ => by simp [valB]
  | b :: l, h => by
    have := valB_nonneg h.cons.2
    have := h.cons.1
    simp only [valB]
    omega
theorem valB_lt : ∀ {l : List Int}, Bytes l → valB l < 256 ^ l.length
  | [], _ => by simp [valB]
  | b :: l, h => by
    have h1 := valB_lt h.cons.2
    have h2 := h.cons.1
    simp only [valB, List.length_cons, Int.pow_succ]
    omega
theorem dig_valB : ∀ {l : List Int}, Bytes l → dig l.length (valB l) = l
  | [], _ => rfl
  | b :: l, h => by
    have h2 := h.cons.1
    have e1 : (b + 256 * valB l) % 256 = b := by omega
    have e2 : (b + 256 * valB l) / 256 = valB l := by omega
    simp only [List.length_cons, dig, valB, e1, e2, dig_valB h.cons.2]
theorem valB_dig : ∀ (k : Nat) (n : Int), 0 ≤ n → n < 256 ^ k → valB (dig k n) = n
  | 0, n, h0, h => by simp [dig, valB] at *; omega
  | k + 1, n, h0, h => by
    rw [Int.pow_succ] at h
    simp only [dig, valB]
    rw [valB_dig k (n / 256) (by omega) (by omega)]
    omega
theorem valB_snoc : ∀ (l : List Int) (c : Int), valB (l ++ [c]) = valB l + c * 256 ^ l.length
  | [], c => by simp [valB]
  | b :: l, c => by
    simp only [List.cons_append, valB, valB_snoc l c, List.length_cons, Int.pow_succ, Int.mul_add]
    rw [Int.add_assoc]
    congr 2
    rw [← Int.mul_assoc, ← Int.mul_assoc, Int.mul_comm 256 c, Int.mul_assoc, Int.mul_comm 256, ← Int.mul_assoc]

theorem csz_cases (n : Int) (h : 1073741824 ≤ n) : 5 ≤ csz n ∧ csz n ≤ 9 := by
  unfold csz
  repeat' split
  all_goals omega
theorem csz_le (n : Int) : 1 ≤ csz n ∧ csz n ≤ 9 := by
  unfold csz
  repeat' split
  all_goals omega
theorem enc_length (n : Int) : (enc n).length = csz n := by
  unfold enc
  by_cases h1 : n < 64
  · simp [h1, csz, dig_length]
  · by_cases h2 : n < 16384
    · simp [h1, h2, csz, dig_length]
    · by_cases h3 : n < 1073741824
      · simp [h1, h2, h3, csz, dig_length]
      · have := csz_cases n (by omega)
        rw [if_neg h1, if_neg h2, if_neg h3, List.length_cons, dig_length]
        omega
theorem enc_bytes (n : Int) : Bytes (enc n) := by
  unfold enc
  split
  · exact dig_bytes _ _
  · split
    · exact dig_bytes _ _
    · split
      · exact dig_bytes _ _
      · intro x hx
        rcases List.mem_cons.1 hx with rfl | hx
        · have := csz_cases n (by omega)
          omega
        · exact dig_bytes _ _ x hx

/-! ### taking -/
def clen (b : Int) : Nat := if b % 4 = 0 then 1 else if b % 4 = 1 then 2 else if b % 4 = 2 then 4 else 5 + (b / 4).toNat
def rawN (l : List Int) (k : Nat) : Int := if l.getD 0 0 % 4 = 3 then valB ((l.take k).drop 1) else valB (l.take k) / 4
def tk (l : List Int) : Int × Int × Int :=
  if l.length = 0 then (0, 0, 5) else
  let k := clen (l.getD 0 0)
  if 9 < k then (0, 0, 2) else if l.length < k then (0, 0, 5) else
  if csz (rawN l k) = k then (rawN l k, k, 0) else (0, 0, 2)

theorem csz_lt (n : Int) : (csz n = 1 ↔ n < 64) ∧ (csz n = 2 ↔ 64 ≤ n ∧ n < 16384) ∧ (csz n = 4 ↔ 16384 ≤ n ∧ n < 1073741824) ∧ (5 ≤ csz n ↔ 1073741824 ≤ n) := by
  unfold csz
  repeat' split
  all_goals (refine ⟨?_, ?_, ?_, ?_⟩ <;> constructor <;> intro h <;> first | omega | (refine ⟨?_, ?_⟩ <;> omega))
theorem csz_pow (n : Int) (h : 1073741824 ≤ n) (h2 : n < 18446744073709551616) : n < 256 ^ (csz n - 1) := by
  unfold csz
  repeat' split
  all_goals first | omega | (simp; omega)
theorem take_split (b : Int) (t : List Int) (k : Nat) (h : 0 < k) : (b :: t).take k = b :: t.take (k - 1) := by
  cases k with
  | zero => omega
  | succ k => simp
theorem clen_pos (b : Int) : 0 < clen b := by
  unfold clen
  (repeat' split) <;> omega
theorem enc_iff {l : List Int} (hb : Bytes l) (hne : 0 < l.length) (hk : clen (l.getD 0 0) ≤ l.length) (h9 : clen (l.getD 0 0) ≤ 9) :
    csz (rawN l (clen (l.getD 0 0))) = clen (l.getD 0 0) ↔ enc (rawN l (clen (l.getD 0 0))) = l.take (clen (l.getD 0 0)) := by
  constructor
  · cases l with
    | nil => simp at hne
    | cons b t =>
      simp only [List.getD_cons_zero] at hk h9 ⊢
      obtain ⟨hb0, hbt⟩ := hb.cons
      have hv : valB ((b :: t).take (clen b)) % 4 = b % 4 := by
        rw [take_split b t (clen b) (clen_pos b)]
        simp only [valB]
        omega
      have hbt2 : Bytes ((b :: t).take (clen b)) := hb.take _
      have hlen : ((b :: t).take (clen b)).length = clen b := by rw [List.length_take]; omega
      have hd := dig_valB hbt2
      rw [hlen] at hd
      have hpos := valB_nonneg hbt2
      intro h
      have hc := csz_lt (rawN (b :: t) (clen b))
      by_cases m3 : b % 4 = 3
      · have hk5 : clen b = 5 + (b / 4).toNat := by unfold clen; rw [if_neg (by omega), if_neg (by omega), if_neg (by omega)]
        have hge := hc.2.2.2.1 (by omega)
        unfold enc
        rw [if_neg (by omega), if_neg (by omega), if_neg (by omega), h, take_split b t (clen b) (by omega)]
        congr 1
        · omega
        · have e : rawN (b :: t) (clen b) = valB (t.take (clen b - 1)) := by
            unfold rawN
            rw [if_pos (by simpa using m3), take_split b t (clen b) (by omega)]
            rfl
          rw [e]
          have hd2 := dig_valB (hbt.take (clen b - 1))
          rw [List.length_take] at hd2
          rw [show min (clen b - 1) t.length = clen b - 1 by simp at hk; omega] at hd2
          exact hd2
      · have e : rawN (b :: t) (clen b) = valB ((b :: t).take (clen b)) / 4 := by
          unfold rawN
          rw [if_neg (by simpa using m3)]
        rw [e] at hc h ⊢
        generalize valB ((b :: t).take (clen b)) = v at *
        unfold enc
        by_cases m0 : b % 4 = 0
        · have hk1 : clen b = 1 := by unfold clen; rw [if_pos m0]
          rw [hk1] at h hd ⊢
          rw [if_pos (hc.1.1 h), show 4 * (v / 4) = v by omega]
          exact hd
        · by_cases m1 : b % 4 = 1
          · have hk1 : clen b = 2 := by unfold clen; rw [if_neg m0, if_pos m1]
            rw [hk1] at h hd ⊢
            have := hc.2.1.1 h
            rw [if_neg (by omega), if_pos (by omega), show 4 * (v / 4) + 1 = v by omega]
            exact hd
          · have m2 : b % 4 = 2 := by omega
            have hk1 : clen b = 4 := by unfold clen; rw [if_neg m0, if_neg m1, if_pos m2]
            rw [hk1] at h hd ⊢
            have := hc.2.2.1.1 h
            rw [if_neg (by omega), if_neg (by omega), if_pos (by omega), show 4 * (v / 4) + 2 = v by omega]
            exact hd
  · intro h
    have h1 := congrArg List.length h
    rw [enc_length, List.length_take] at h1
    omega
theorem tk_enc {n : Int} (h : U64' n) (r : List Int) : tk (enc n ++ r) = (n, (csz n : Int), 0) := by
  have hl := enc_length n
  have hs := csz_le n
  have key : clen ((enc n ++ r).getD 0 0) = csz n ∧ rawN (enc n ++ r) (csz n) = n := by
    have hc := csz_lt n
    obtain ⟨h0, h1⟩ := h
    have htk : (enc n ++ r).take (csz n) = enc n := by rw [← hl, List.take_left']; rfl
    by_cases c1 : n < 64
    · have hk := hc.1.2 c1
      have e : enc n = dig 1 (4 * n) := by unfold enc; rw [if_pos c1]
      have g : (enc n ++ r).getD 0 0 = 4 * n := by rw [e]; simp [dig]; omega
      refine ⟨by rw [g, hk]; unfold clen; rw [if_pos (by omega)], ?_⟩
      unfold rawN
      rw [g, if_neg (by omega), htk, e, valB_dig 1 _ (by omega) (by simp; omega)]
      omega
    · by_cases c2 : n < 16384
      · have hk := hc.2.1.2 ⟨by omega, c2⟩
        have e : enc n = dig 2 (4 * n + 1) := by unfold enc; rw [if_neg c1, if_pos c2]
        have g : (enc n ++ r).getD 0 0 = (4 * n + 1) % 256 := by rw [e]; simp [dig]
        refine ⟨by rw [g, hk]; unfold clen; rw [if_neg (by omega), if_pos (by omega)], ?_⟩
        unfold rawN
        rw [g, if_neg (by omega), htk, e, valB_dig 2 _ (by omega) (by simp; omega)]
        omega
      · by_cases c3 : n < 1073741824
        · have hk := hc.2.2.1.2 ⟨by omega, c3⟩
          have e : enc n = dig 4 (4 * n + 2) := by unfold enc; rw [if_neg c1, if_neg c2, if_pos c3]
          have g : (enc n ++ r).getD 0 0 = (4 * n + 2) % 256 := by rw [e]; simp [dig]
          refine ⟨by rw [g, hk]; unfold clen; rw [if_neg (by omega), if_neg (by omega), if_pos (by omega)], ?_⟩
          unfold rawN
          rw [g, if_neg (by omega), htk, e, valB_dig 4 _ (by omega) (by simp; omega)]
          omega
        · have hk := hc.2.2.2.2 (by omega)
          have e : enc n = (((csz n : Int) - 5) * 4 + 3) :: dig (csz n - 1) n := by unfold enc; rw [if_neg c1, if_neg c2, if_neg c3]
          have g : (enc n ++ r).getD 0 0 = ((csz n : Int) - 5) * 4 + 3 := by rw [e]; simp
          refine ⟨by rw [g]; unfold clen; rw [if_neg (by omega), if_neg (by omega), if_neg (by omega)]; omega, ?_⟩
          unfold rawN
          rw [g, if_pos (by omega), htk, e, List.drop_one, List.tail_cons, valB_dig _ _ (by omega) (csz_pow n (by omega) h1)]
  have hlen : (enc n ++ r).length = csz n + r.length := by rw [List.length_append, hl]
  unfold tk
  simp only [key.1]
  rw [if_neg (by omega), if_neg (by omega), if_neg (by omega), key.2, if_pos rfl]
end Go.Ps
