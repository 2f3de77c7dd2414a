/- What is slashed: the plain law. -/
import Derived.Test.YtpndkelbchjkiaaLy
set_option linter.unusedVariables false
set_option linter.unusedSimpArgs false
namespace Go.Proofs.Ytpndkelbchjkiaa
open Go.RowKit Go.Ps
def sumC : List (Int × Int) → Int
  | [] => 0
  | x :: l => x.1 + sumC l
theorem sumC_app : ∀ (l m : List (Int × Int)), sumC (l ++ m) = sumC l + sumC m
  | [], m => by simp [sumC]
  | x :: l, m => by simp [sumC, sumC_app l m]; omega
theorem sumC_nn : ∀ (l : List (Int × Int)), (∀ x ∈ l, 0 ≤ x.1) → 0 ≤ sumC l
  | [], _ => Int.le_refl _
  | x :: l, h => by
    have := sumC_nn l (fun y hy => h y (List.mem_cons_of_mem _ hy))
    have := h x (List.mem_cons_self ..)
    simp only [sumC]
    omega
theorem sl_sum : ∀ (l : List (Int × Int)) (n : Int), 0 ≤ n → (∀ x ∈ l, 0 ≤ x.1) → (sl l n).2 = n - min n (sumC l) ∧ sumC (sl l n).1 = sumC l - min n (sumC l)
  | [], n, h, _ => by simp [sl, sumC]; omega
  | x :: l, n, h, hx => by
    obtain ⟨h1, h2⟩ := sl_sum l n h (fun y hy => hx y (List.mem_cons_of_mem _ hy))
    have h3 := hx x (List.mem_cons_self ..)
    have h4 := sumC_nn l (fun y hy => hx y (List.mem_cons_of_mem _ hy))
    simp only [sl, sumC, h1, h2]
    omega
theorem sumC_filter : ∀ (l : List (Int × Int)), sumC (l.filter (fun x => !decide (x.1 = 0))) = sumC l
  | [] => rfl
  | x :: l => by
    by_cases h : x.1 = 0
    · rw [List.filter_cons_of_neg (by simp [h]), sumC_filter l, sumC, h]; omega
    · rw [List.filter_cons_of_pos (by simp [h]), sumC, sumC, sumC_filter l]
theorem sl_mem : ∀ (l : List (Int × Int)) (n : Int), 0 ≤ n → (∀ x ∈ l, 0 ≤ x.1) → ∀ y ∈ (sl l n).1, 0 ≤ y.1
  | [], n, h, _, y, hy => by simp [sl] at hy
  | x :: l, n, h, hx, y, hy => by
    have hx' := fun y hy => hx y (List.mem_cons_of_mem _ hy)
    have h3 := hx x (List.mem_cons_self ..)
    have h4 := sl_le l n h hx'
    simp only [sl, List.mem_cons] at hy
    rcases hy with rfl | hy
    · simp only; omega
    · exact sl_mem l n h hx' y hy
theorem sumC_take_le : ∀ (l : List (Int × Int)) (k : Nat), (∀ x ∈ l, 0 ≤ x.1) → 0 ≤ sumC (l.take k) ∧ sumC (l.take k) ≤ sumC l := by
  intro l k h
  have h1 := sumC_app (l.take k) (l.drop k)
  rw [List.take_append_drop] at h1
  have h2 := sumC_nn (l.drop k) (fun x hx => h x (List.mem_of_mem_drop hx))
  have h3 := sumC_nn (l.take k) (fun x hx => h x (List.mem_of_mem_take hx))
  omega
def sumI : List Int → Int
  | [] => 0
  | x :: l => x + sumI l
theorem sumI_app : ∀ (l m : List Int), sumI (l ++ m) = sumI l + sumI m
  | [], m => by simp [sumI]
  | x :: l, m => by simp [sumI, sumI_app l m]; omega
theorem sumI_nn : ∀ (l : List Int), (∀ x ∈ l, 0 ≤ x) → 0 ≤ sumI l
  | [], _ => Int.le_refl _
  | x :: l, h => by
    have := sumI_nn l (fun y hy => h y (List.mem_cons_of_mem _ hy))
    have := h x (List.mem_cons_self ..)
    simp only [sumI]
    omega
theorem sumI_le : ∀ (l : List Int) (m : Int), (∀ x ∈ l, x ≤ m) → sumI l ≤ l.length * m
  | [], m, _ => by simp [sumI]
  | x :: l, m, h => by
    have := sumI_le l m (fun y hy => h y (List.mem_cons_of_mem _ hy))
    have := h x (List.mem_cons_self ..)
    simp only [sumI, List.length_cons, Int.natCast_add, Int.add_mul]
    omega
/-- The chunks of parts, the first of era i. -/
def chs : Nat → List Int → List (Int × Int)
  | _, [] => []
  | i, x :: l => if x = 0 then chs (i + 1) l else (x, (i : Int)) :: chs (i + 1) l
theorem chs_snoc : ∀ (l : List Int) (i : Nat) (x : Int), chs i (l ++ [x]) = if x = 0 then chs i l else chs i l ++ [(x, ((i + l.length : Nat) : Int))]
  | [], i, x => by simp [chs]
  | y :: l, i, x => by
    have := chs_snoc l (i + 1) x
    simp only [List.cons_append, chs, this, List.length_cons]
    by_cases hx : x = 0 <;> by_cases hy : y = 0 <;> simp [hx, hy] <;> omega
theorem chs_sum : ∀ (l : List Int) (i : Nat), sumC (chs i l) = sumI l
  | [], i => rfl
  | x :: l, i => by
    simp only [chs, sumI]
    by_cases h : x = 0
    · rw [if_pos h, chs_sum l, h]; omega
    · rw [if_neg h, sumC, chs_sum l]
theorem chs_len : ∀ (l : List Int) (i : Nat), (chs i l).length ≤ l.length
  | [], i => Nat.le_refl _
  | x :: l, i => by
    have := chs_len l (i + 1)
    simp only [chs]
    split <;> simp <;> omega
theorem chs_mem : ∀ (l : List Int) (i : Nat), ∀ y ∈ chs i l, y.1 ∈ l ∧ (i : Int) ≤ y.2 ∧ y.2 < (i : Int) + l.length
  | [], i, y, h => by simp [chs] at h
  | x :: l, i, y, h => by
    simp only [chs] at h
    split at h
    · obtain ⟨h1, h2, h3⟩ := chs_mem l (i + 1) y h
      refine ⟨List.mem_cons_of_mem _ h1, by omega, by simp; omega⟩
    · rcases List.mem_cons.1 h with rfl | h
      · refine ⟨List.mem_cons_self .., Int.le_refl _, by simp; omega⟩
      · obtain ⟨h1, h2, h3⟩ := chs_mem l (i + 1) y h
        refine ⟨List.mem_cons_of_mem _ h1, by omega, by simp; omega⟩
theorem Srt.cons {x : Int × Int} {l : List (Int × Int)} (h : Srt l) (hx : ∀ y ∈ l, x.2 < y.2) : Srt (x :: l) := by
  intro i j hij hj
  match i, j, hij with
  | 0, j + 1, _ =>
    exact hx _ (getD_mem (by simpa using hj))
  | i + 1, j + 1, hij => exact h i j (by omega) (by simpa using hj)
theorem chs_srt : ∀ (l : List Int) (i : Nat), Srt (chs i l)
  | [], i => fun _ j _ h => by simp [chs] at h
  | x :: l, i => by
    simp only [chs]
    split
    · exact chs_srt l _
    · refine (chs_srt l _).cons (fun y hy => ?_)
      have := (chs_mem l (i + 1) y hy).2.1
      show (i : Int) < y.2
      omega
theorem pos_end {era : Int} : ∀ {l : List (Int × Int)}, (∀ y ∈ l, y.2 < era) → pos era l = l.length
  | [], _ => rfl
  | x :: l, h => by
    rw [pos, if_pos (h x (List.mem_cons_self ..)), pos_end (fun y hy => h y (List.mem_cons_of_mem _ hy))]
    rfl
def s2 (f b : Int) (ch : List (Int × Int)) (t iss : Int) : S := ⟨[⟨f, b, 0, ch⟩, ⟨7, 0, 0, []⟩], t, 0, iss⟩
theorem s2_U {f b t iss : Int} {ch : List (Int × Int)} (hf : U64 f) (hb : U64 b) (ht : U64 t) : (s2 f b ch t iss).U := by
  intro P hP
  match P, hP with
  | .tre, _ => exact ht
  | .pot, _ => exact ⟨Int.le_refl _, by show (0:Int) < _; omega⟩
  | .acc i j, hP =>
    obtain ⟨h1, h2⟩ := hP
    have h1 : i < 2 := h1
    match i, j, h1, h2 with
    | 0, 0, _, _ => exact hf
    | 0, 1, _, _ => exact hb
    | 0, 2, _, _ => exact ⟨Int.le_refl _, by show (0:Int) < _; omega⟩
    | 1, 0, _, _ => exact ⟨by show (0:Int) ≤ 7; omega, by show (7:Int) < _; omega⟩
    | 1, 1, _, _ => exact ⟨Int.le_refl _, by show (0:Int) < _; omega⟩
    | 1, 2, _, _ => exact ⟨Int.le_refl _, by show (0:Int) < _; omega⟩
theorem s2_bond {f n iss : Int} (hf : 0 ≤ f) (hn : U64 n) : (s2 (f + n) 0 [] 0 iss).bond 0 n = (s2 f n [] 0 iss, 0) := by
  unfold S.bond S.mv
  rw [if_neg (by simp [S.bad, s2])]
  have h1 : ¬ (s2 (f + n) 0 [] 0 iss).get (.acc 0 0) < n := by show ¬ (f + n < n); omega
  rw [show Int.toNat 0 = 0 from rfl, if_neg h1]
  have h2 : f + n - n = f := by omega
  unfold U64 at hn
  simp [S.put, S.get, s2, Ac.get, Ac.put, h2]
  omega
theorem s2_unbond {f b x t iss : Int} {k : Nat} {ch : List (Int × Int)} (hx : U64 x) (hb : x ≤ b) (hl : ch.length < 8) (he : ∀ y ∈ ch, y.2 < (k : Int)) :
    ((s2 f b ch t iss).unbond 0 x k).1 = s2 f (b - x) (if x = 0 then ch else ch ++ [(x, (k : Int))]) t iss := by
  unfold S.unbond
  rw [if_neg (by simp [S.bad, s2])]
  by_cases h0 : x = 0
  · rw [if_pos h0, if_pos h0, h0, Int.sub_zero]
  · rw [if_neg h0, if_neg h0, show Int.toNat 0 = 0 from rfl]
    have hg : (s2 f b ch t iss).acc.getD 0 a0 = ⟨f, b, 0, ch⟩ := rfl
    rw [hg]
    have hp := pos_end he
    have hth : ¬ thr ch (k : Int) := fun h => by have := h.1; omega
    rw [if_neg (by show ¬ b < x; omega), if_neg (fun h => by have := h.2; simp only at this; omega)]
    simp only [insC, if_neg hth, hp, List.take_length, List.drop_length]
    have hg2 : (ch ++ [(0, (k : Int))]).getD ch.length d0 = (0, (k : Int)) := by simp
    simp only [Ac.unb, hg2, s2, List.set_cons_zero]
    have h3 : (0 + x) % 18446744073709551616 = x := by unfold U64 at hx; omega
    rw [h3]
    simp
end Go.Proofs.Ytpndkelbchjkiaa
