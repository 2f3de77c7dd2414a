/- A ledger is whole: the invariant, kept by each method, plainly. -/
import Derived.Test.YtpndkelbchjkiaaLk2
set_option linter.unusedVariables false
set_option linter.unusedSimpArgs false
namespace Go.Proofs.Ytpndkelbchjkiaa
open Go.RowKit Go.Ps
structure Ac.ok (a : Ac) : Prop where
  f : 0 ≤ a.free
  b : 0 ≤ a.bonded
  d : 0 ≤ a.dep
  c : ∀ x ∈ a.ch, 0 < x.1
  e : a.ch.Pairwise (fun x y => x.2 < y.2)
  n : a.ch.length ≤ 8
def Ac.sum (a : Ac) : Int := a.free + a.bonded + a.dep + sumC a.ch
def sumA : List Ac → Int
  | [] => 0
  | a :: l => a.sum + sumA l
def S.sum (s : S) : Int := s.tre + s.pot + sumA s.acc
structure S.Nn (s : S) : Prop where
  t : 0 ≤ s.tre
  p : 0 ≤ s.pot
  a : ∀ x ∈ s.acc, x.ok
structure S.Inv (s : S) : Prop extends s.Nn where
  w : s.sum = s.iss
  i : s.iss < 18446744073709551616
theorem Ac.ok.ch0 {a : Ac} (h : a.ok) : ∀ x ∈ a.ch, 0 ≤ x.1 := fun x hx => Int.le_of_lt (h.c x hx)
theorem Ac.ok.nn {a : Ac} (h : a.ok) : 0 ≤ sumC a.ch ∧ sumC a.ch ≤ a.sum ∧ 0 ≤ a.sum ∧ a.free ≤ a.sum ∧ a.bonded ≤ a.sum ∧ a.dep ≤ a.sum := by
  have := sumC_nn a.ch h.ch0
  have := h.f
  have := h.b
  have := h.d
  unfold Ac.sum
  omega
theorem sumA_nn : ∀ {l : List Ac}, (∀ x ∈ l, x.ok) → 0 ≤ sumA l
  | [], _ => Int.le_refl _
  | x :: l, h => by
    have := sumA_nn (fun y hy => h y (List.mem_cons_of_mem _ hy))
    have := (h x (List.mem_cons_self ..)).nn
    simp only [sumA]
    omega
theorem sumA_le : ∀ {l : List Ac} (i : Nat), (∀ x ∈ l, x.ok) → i < l.length → (l.getD i a0).sum ≤ sumA l
  | x :: l, 0, h, _ => by
    have := sumA_nn (fun y hy => h y (List.mem_cons_of_mem _ hy))
    simp only [sumA]
    show x.sum ≤ _
    omega
  | x :: l, i + 1, h, hi => by
    have := sumA_le i (fun y hy => h y (List.mem_cons_of_mem _ hy)) (by simpa using hi)
    have := (h x (List.mem_cons_self ..)).nn
    simp only [sumA]
    show (l.getD i a0).sum ≤ _
    omega
theorem sumA_set : ∀ (l : List Ac) (i : Nat) (x : Ac), i < l.length → sumA (l.set i x) = sumA l - (l.getD i a0).sum + x.sum
  | y :: l, 0, x, _ => by
    simp only [List.set_cons_zero, sumA]
    show _ = _ - y.sum + _
    omega
  | y :: l, i + 1, x, hi => by
    have := sumA_set l i x (by simpa using hi)
    simp only [List.set_cons_succ, sumA, this]
    show _ = _ - (l.getD i a0).sum + _
    omega
theorem getD_memA {l : List Ac} {i : Nat} (h : i < l.length) : l.getD i a0 ∈ l := by
  rw [List.getD_eq_getElem?_getD, List.getElem?_eq_getElem h]
  exact List.getElem_mem h
theorem S.Nn.acc {s : S} (h : s.Nn) {i : Nat} (hi : i < s.acc.length) : (s.acc.getD i a0).ok := h.a _ (getD_memA hi)
theorem S.Nn.set {s : S} (h : s.Nn) (i : Nat) {x : Ac} (hx : x.ok) {t p q : Int} (ht : 0 ≤ t) (hp : 0 ≤ p) : S.Nn ⟨s.acc.set i x, t, p, q⟩ :=
  ⟨ht, hp, fun y hy => by
    rcases List.mem_or_eq_of_mem_set hy with h1 | h1
    · exact h.a y h1
    · rw [h1]; exact hx⟩
theorem sum_set (s : S) {i : Nat} (hi : i < s.acc.length) (x : Ac) (t p q : Int) : S.sum ⟨s.acc.set i x, t, p, q⟩ = t + p + (sumA s.acc - (s.acc.getD i a0).sum + x.sum) := by
  show t + p + sumA (s.acc.set i x) = _
  rw [sumA_set _ _ _ hi]
theorem get_put (s : S) (x : Int) {P : Pc} (hP : s.ok P) : (s.put x P).get P = x := by
  match P, hP with
  | .tre, _ => rfl
  | .pot, _ => rfl
  | .acc i j, hP =>
    obtain ⟨h1, h2⟩ := hP
    show Ac.get ((s.acc.set i _).getD i a0) j = x
    rw [getD_setA _ _ _ h1]
    match j, h2 with
    | 0, _ => rfl
    | 1, _ => rfl
    | 2, _ => rfl
theorem sum_put (s : S) (x : Int) {P : Pc} (hP : s.ok P) : (s.put x P).sum = s.sum - s.get P + x := by
  match P, hP with
  | .tre, _ => show x + s.pot + sumA s.acc = s.tre + s.pot + sumA s.acc - s.tre + x; omega
  | .pot, _ => show s.tre + x + sumA s.acc = s.tre + s.pot + sumA s.acc - s.pot + x; omega
  | .acc i j, hP =>
    obtain ⟨h1, h2⟩ := hP
    have h3 : ((s.acc.getD i a0).put x j).sum = (s.acc.getD i a0).sum - (s.acc.getD i a0).get j + x := by
      generalize s.acc.getD i a0 = a
      match j, h2 with
      | 0, _ => show x + a.bonded + a.dep + sumC a.ch = a.free + a.bonded + a.dep + sumC a.ch - a.free + x; omega
      | 1, _ => show a.free + x + a.dep + sumC a.ch = a.free + a.bonded + a.dep + sumC a.ch - a.bonded + x; omega
      | 2, _ => show a.free + a.bonded + x + sumC a.ch = a.free + a.bonded + a.dep + sumC a.ch - a.dep + x; omega
    show s.tre + s.pot + sumA (s.acc.set i _) = s.tre + s.pot + sumA s.acc - (s.acc.getD i a0).get j + x
    rw [sumA_set _ _ _ h1, h3]
    omega
theorem S.Nn.put {s : S} (h : s.Nn) {x : Int} (hx : 0 ≤ x) {P : Pc} (hP : s.ok P) : (s.put x P).Nn := by
  match P, hP with
  | .tre, _ => exact ⟨hx, h.p, h.a⟩
  | .pot, _ => exact ⟨h.t, hx, h.a⟩
  | .acc i j, hP =>
    obtain ⟨h1, h2⟩ := hP
    refine h.set i ?_ h.t h.p
    have h3 := h.acc h1
    generalize s.acc.getD i a0 = a at h3 ⊢
    match j, h2 with
    | 0, _ => exact ⟨hx, h3.b, h3.d, h3.c, h3.e, h3.n⟩
    | 1, _ => exact ⟨h3.f, hx, h3.d, h3.c, h3.e, h3.n⟩
    | 2, _ => exact ⟨h3.f, h3.b, hx, h3.c, h3.e, h3.n⟩
theorem S.Nn.get {s : S} (h : s.Nn) {P : Pc} (hP : s.ok P) : 0 ≤ s.get P ∧ s.get P ≤ s.sum := by
  have h0 := sumA_nn h.a
  have ht := h.t
  have hp := h.p
  match P, hP with
  | .tre, _ => unfold S.sum; exact ⟨ht, by show s.tre ≤ _; omega⟩
  | .pot, _ => unfold S.sum; exact ⟨hp, by show s.pot ≤ _; omega⟩
  | .acc i j, hP =>
    obtain ⟨h1, h2⟩ := hP
    have h3 := h.acc h1
    have h4 := h3.nn
    have h5 := sumA_le i h.a h1
    have hf := h3.f
    have hb := h3.b
    have hd := h3.d
    unfold S.sum
    show 0 ≤ (s.acc.getD i a0).get j ∧ (s.acc.getD i a0).get j ≤ _
    match j, h2 with
    | 0, _ => exact ⟨hf, by show (s.acc.getD i a0).free ≤ _; omega⟩
    | 1, _ => exact ⟨hb, by show (s.acc.getD i a0).bonded ≤ _; omega⟩
    | 2, _ => exact ⟨hd, by show (s.acc.getD i a0).dep ≤ _; omega⟩
theorem S.Nn.sum0 {s : S} (h : s.Nn) : 0 ≤ s.sum := by
  have h0 := sumA_nn h.a
  have ht := h.t
  have hp := h.p
  unfold S.sum
  omega
theorem S.Inv.U {s : S} (h : s.Inv) : s.U := fun P hP => by
  have h1 := h.toNn.get hP
  have h2 := h.w
  have h3 := h.i
  unfold U64
  omega
theorem S.Inv.iss {s : S} (h : s.Inv) : U64 s.iss := by
  have h1 := h.toNn.sum0
  have h2 := h.w
  have h3 := h.i
  unfold U64
  omega
theorem mem_le_sumC : ∀ {l : List (Int × Int)} {x : Int × Int}, (∀ y ∈ l, 0 ≤ y.1) → x ∈ l → x.1 ≤ sumC l
  | y :: l, x, h, hx => by
    have := sumC_nn l (fun y hy => h y (List.mem_cons_of_mem _ hy))
    have := h y (List.mem_cons_self ..)
    simp only [sumC]
    rcases List.mem_cons.1 hx with rfl | hx
    · omega
    · have := mem_le_sumC (fun y hy => h y (List.mem_cons_of_mem _ hy)) hx
      omega
theorem S.Inv.C {s : S} (h : s.Inv) : s.C := fun i hi => by
  have h1 := h.toNn.acc hi
  refine ⟨Nat.le_trans h1.n (by omega), fun x hx => ?_⟩
  have h2 := mem_le_sumC h1.ch0 hx
  have h3 := h1.c x hx
  have h4 := h1.nn
  have h5 := sumA_le i h.a hi
  have h6 := h.t
  have h7 := h.p
  have h8 := h.w
  have h9 := h.i
  unfold S.sum at h8
  unfold U64
  omega
theorem mv_inv {s : S} (h : s.Inv) {P Q : Pc} (hP : s.ok P) (hQ : s.ok Q) {n : Int} (hn : 0 ≤ n) : (s.mv P Q n).1.Inv ∧ (s.mv P Q n).1.iss = s.iss ∧ (s.mv P Q n).1.acc.length = s.acc.length := by
  have hput : ∀ (s : S) (x : Int) (P : Pc), (s.put x P).iss = s.iss ∧ (s.put x P).acc.length = s.acc.length := fun s x P => by cases P <;> simp [S.put]
  unfold S.mv
  split
  · exact ⟨h, rfl, rfl⟩
  · rename_i h0
    have h1 := h.toNn.put (x := s.get P - n) (by omega) hP
    have h2 := put_ok s (s.get P - n) P Q hQ
    have h3 := h1.get h2
    have h4 := sum_put s (s.get P - n) hP
    have h5 := h.w
    have h6 := h.i
    have h7 : ((s.put (s.get P - n) P).get Q + n) % 18446744073709551616 = (s.put (s.get P - n) P).get Q + n := by omega
    rw [h7]
    refine ⟨⟨h1.put (by omega) h2, ?_, ?_⟩, ?_, ?_⟩
    · rw [sum_put _ _ h2, h4, (hput _ _ _).1, (hput _ _ _).1]; omega
    · rw [(hput _ _ _).1, (hput _ _ _).1]; exact h6
    · rw [(hput _ _ _).1, (hput _ _ _).1]
    · rw [(hput _ _ _).2, (hput _ _ _).2]
/-- The whole state behind a step: still whole, nothing minted, as many accounts. -/
def S.Keeps (s s' : S) : Prop := s'.Inv ∧ s'.iss = s.iss ∧ s'.acc.length = s.acc.length
theorem bond_inv {s : S} (h : s.Inv) (a n : Int) (hn : 0 ≤ n) : s.Keeps (s.bond a n).1 := by
  unfold S.bond
  by_cases h0 : s.bad a
  · rw [if_pos h0]; exact ⟨h, rfl, rfl⟩
  · rw [if_neg h0]
    have h1 : a.toNat < s.acc.length := by unfold S.bad at h0; omega
    exact mv_inv (P := .acc a.toNat 0) (Q := .acc a.toNat 1) h ⟨h1, by omega⟩ ⟨h1, by omega⟩ hn
theorem deposit_inv {s : S} (h : s.Inv) (a n : Int) (hn : 0 ≤ n) : s.Keeps (s.deposit a n).1 := by
  unfold S.deposit
  by_cases h0 : s.bad a
  · rw [if_pos h0]; exact ⟨h, rfl, rfl⟩
  · rw [if_neg h0]
    have h1 : a.toNat < s.acc.length := by unfold S.bad at h0; omega
    exact mv_inv (P := .acc a.toNat 0) (Q := .acc a.toNat 2) h ⟨h1, by omega⟩ ⟨h1, by omega⟩ hn
theorem release_inv {s : S} (h : s.Inv) (a n : Int) (hn : 0 ≤ n) : s.Keeps (s.release a n).1 := by
  unfold S.release
  by_cases h0 : s.bad a
  · rw [if_pos h0]; exact ⟨h, rfl, rfl⟩
  · rw [if_neg h0]
    have h1 : a.toNat < s.acc.length := by unfold S.bad at h0; omega
    exact mv_inv (P := .acc a.toNat 2) (Q := .acc a.toNat 0) h ⟨h1, by omega⟩ ⟨h1, by omega⟩ hn
theorem forfeit_inv {s : S} (h : s.Inv) (a n : Int) (hn : 0 ≤ n) : s.Keeps (s.forfeit a n).1 := by
  unfold S.forfeit
  by_cases h0 : s.bad a
  · rw [if_pos h0]; exact ⟨h, rfl, rfl⟩
  · rw [if_neg h0]
    have h1 : a.toNat < s.acc.length := by unfold S.bad at h0; omega
    exact mv_inv (P := .acc a.toNat 2) (Q := .tre) h ⟨h1, by omega⟩ trivial hn
theorem pay_inv {s : S} (h : s.Inv) (a n : Int) (hn : 0 ≤ n) : s.Keeps (s.pay a n).1 := by
  unfold S.pay
  by_cases h0 : s.bad a
  · rw [if_pos h0]; exact ⟨h, rfl, rfl⟩
  · rw [if_neg h0]
    have h1 : a.toNat < s.acc.length := by unfold S.bad at h0; omega
    exact mv_inv (P := .pot) (Q := .acc a.toNat 0) h trivial ⟨h1, by omega⟩ hn
theorem transfer_inv {s : S} (h : s.Inv) (a b n : Int) (hn : 0 ≤ n) : s.Keeps (s.transfer a b n).1 := by
  unfold S.transfer
  by_cases h0 : s.bad a ∨ s.bad b
  · rw [if_pos h0]; exact ⟨h, rfl, rfl⟩
  · rw [if_neg h0]
    have h1 : a.toNat < s.acc.length := by unfold S.bad at h0; omega
    have h2 : b.toNat < s.acc.length := by unfold S.bad at h0; omega
    exact mv_inv (P := .acc a.toNat 0) (Q := .acc b.toNat 0) h ⟨h1, by omega⟩ ⟨h2, by omega⟩ hn
theorem keep_inv {s : S} (h : s.Inv) (n : Int) (hn : 0 ≤ n) : s.Keeps (s.keep n).1 := mv_inv (P := .pot) (Q := .tre) h trivial trivial hn
theorem mint_inv {s : S} (h : s.Inv) (n : Int) (hn : 0 ≤ n) : (s.mint n).1.Inv ∧ (s.mint n).1.iss = (if (s.mint n).2 = 0 then s.iss + n else s.iss) ∧ (s.mint n).1.acc.length = s.acc.length ∧ ((s.mint n).2 = 0 → s.iss + n < 18446744073709551616) := by
  unfold S.mint
  have h1 := h.w
  have h2 := sumA_nn h.a
  have h3 := h.t
  have h4 := h.p
  by_cases h0 : s.iss + n < 18446744073709551616
  · rw [if_pos h0]
    unfold S.sum at h1
    have h5 : (s.pot + n) % 18446744073709551616 = s.pot + n := by omega
    refine ⟨⟨⟨h3, ?_, h.a⟩, ?_, h0⟩, rfl, rfl, fun _ => h0⟩
    · show 0 ≤ (s.pot + n) % 18446744073709551616
      omega
    · show s.tre + (s.pot + n) % 18446744073709551616 + sumA s.acc = s.iss + n
      omega
  · rw [if_neg h0]
    exact ⟨h, rfl, rfl, fun h => by simp at h⟩
/-- An account replaced, the treasury raised by what it lost. -/
theorem set_inv {s : S} (h : s.Inv) {i : Nat} (hi : i < s.acc.length) {x : Ac} (hx : x.ok) {t : Int} (ht : t + x.sum = s.tre + (s.acc.getD i a0).sum) (h0 : 0 ≤ t) : s.Keeps { s with acc := s.acc.set i x, tre := t } := by
  refine ⟨⟨h.toNn.set i hx h0 h.p, ?_, h.i⟩, rfl, by simp⟩
  have h1 := h.w
  unfold S.sum at h1
  show t + s.pot + sumA (s.acc.set i x) = s.iss
  rw [sumA_set _ _ _ hi]
  omega
theorem sumC_part (era : Int) : ∀ (l : List (Int × Int)), sumC (l.filter (fun x => decide (era < x.2))) + sumC (l.filter (fun x => !decide (era < x.2))) = sumC l
  | [] => rfl
  | x :: l => by
    have := sumC_part era l
    by_cases h : era < x.2
    · rw [List.filter_cons_of_pos (by simp [h]), List.filter_cons_of_neg (by simp [h])]
      simp only [sumC]
      omega
    · rw [List.filter_cons_of_neg (by simp [h]), List.filter_cons_of_pos (by simp; omega)]
      simp only [sumC]
      omega
theorem wsum_sum (era : Int) : ∀ (l : List (Int × Int)) (n : Int), 0 ≤ n → (∀ x ∈ l, 0 ≤ x.1) → n + sumC l < 18446744073709551616 → wsum era n l = n + sumC (l.filter (fun x => !decide (era < x.2)))
  | [], n, _, _, _ => by simp [wsum, sumC]
  | x :: l, n, hn, hx, hs => by
    have h1 := hx x (List.mem_cons_self ..)
    have h2 := sumC_nn l (fun y hy => hx y (List.mem_cons_of_mem _ hy))
    simp only [sumC] at hs
    unfold wsum
    by_cases h : era < x.2
    · rw [if_pos h, List.filter_cons_of_neg (by simp [h])]
      exact wsum_sum era l n hn (fun y hy => hx y (List.mem_cons_of_mem _ hy)) (by omega)
    · rw [if_neg h, List.filter_cons_of_pos (by simp; omega), show (n + x.1) % 18446744073709551616 = n + x.1 by omega]
      rw [wsum_sum era l (n + x.1) (by omega) (fun y hy => hx y (List.mem_cons_of_mem _ hy)) (by omega)]
      simp only [sumC]
      omega
theorem acc_le {s : S} (h : s.Inv) {i : Nat} (hi : i < s.acc.length) : s.tre + (s.acc.getD i a0).sum ≤ s.iss ∧ s.iss < 18446744073709551616 ∧ 0 ≤ s.tre := by
  have h1 := h.w
  have h2 := sumA_le i h.a hi
  have h3 := h.p
  have h4 := h.i
  have h5 := h.t
  unfold S.sum at h1
  omega
theorem withdraw_inv {s : S} (h : s.Inv) (a era : Int) : s.Keeps (s.withdraw a era).1 := by
  unfold S.withdraw
  by_cases h0 : s.bad a
  · rw [if_pos h0]; exact ⟨h, rfl, rfl⟩
  · rw [if_neg h0]
    have h1 : a.toNat < s.acc.length := by unfold S.bad at h0; omega
    have h2 := h.toNn.acc h1
    have h3 := acc_le h h1
    have h4 := h2.nn
    generalize hx : s.acc.getD a.toNat a0 = x at h2 h3 h4 ⊢
    have h5 := wsum_sum era x.ch 0 (Int.le_refl _) h2.ch0 (by omega)
    have h6 := sumC_part era x.ch
    have h7 := sumC_nn (x.ch.filter (fun x => !decide (era < x.2))) (fun y hy => h2.ch0 y (List.mem_filter.1 hy).1)
    have h8 := sumC_nn (x.ch.filter (fun x => decide (era < x.2))) (fun y hy => h2.ch0 y (List.mem_filter.1 hy).1)
    have h9 := h2.f
    have hb := h2.b
    have hd := h2.d
    have hfs : (x.free + wsum era 0 x.ch) % 18446744073709551616 = x.free + sumC (x.ch.filter (fun x => !decide (era < x.2))) := by
      unfold Ac.sum at h3
      omega
    rw [hfs]
    refine set_inv (x := { x with ch := x.ch.filter (fun x => decide (era < x.2)), free := x.free + sumC (x.ch.filter (fun x => !decide (era < x.2))) }) (t := s.tre) h h1 ⟨by simp only; omega, hb, hd, fun y hy => h2.c y (List.mem_filter.1 hy).1, h2.e.filter _, Nat.le_trans (List.length_filter_le _ _) h2.n⟩ ?_ h3.2.2
    rw [hx]
    unfold Ac.sum
    simp only
    omega
theorem sl_eras : ∀ (l : List (Int × Int)) (n : Int), (sl l n).1.map Prod.snd = l.map Prod.snd
  | [], _ => rfl
  | x :: l, n => by simp [sl, sl_eras l n]
theorem rises_map {l m : List (Int × Int)} (h : l.map Prod.snd = m.map Prod.snd) (hm : m.Pairwise (fun x y => x.2 < y.2)) : l.Pairwise (fun x y => x.2 < y.2) := by
  have h1 : (m.map Prod.snd).Pairwise (fun x y => x < y) := List.pairwise_map.2 hm
  rw [← h] at h1
  exact List.pairwise_map.1 h1
theorem slash_inv {s : S} (h : s.Inv) (a n : Int) (hn : U64 n) : s.Keeps (s.slash a n).1 := by
  unfold S.slash
  by_cases h0 : s.bad a
  · rw [if_pos h0]; exact ⟨h, rfl, rfl⟩
  · rw [if_neg h0]
    have h1 : a.toNat < s.acc.length := by unfold S.bad at h0; omega
    have h2 := h.toNn.acc h1
    have h3 := acc_le h h1
    have h4 := h2.nn
    generalize hx : s.acc.getD a.toNat a0 = x at h2 h3 h4 ⊢
    have hb := h2.b
    have hf := h2.f
    have hd := h2.d
    unfold U64 at hn
    obtain ⟨h5, h6⟩ := sl_sum x.ch (n - min n x.bonded) (by omega) h2.ch0
    have h7 := sl_mem x.ch (n - min n x.bonded) (by omega) h2.ch0
    have h8 := sumC_filter (sl x.ch (n - min n x.bonded)).1
    have h9 : (x.cut n).2 = n - min n x.bonded - min (n - min n x.bonded) (sumC x.ch) := h5
    have hs : x.sum = x.free + x.bonded + x.dep + sumC x.ch := rfl
    have ht : (s.tre + (n - (x.cut n).2)) % 18446744073709551616 = s.tre + (n - (x.cut n).2) := by omega
    rw [ht]
    refine set_inv (x := (x.cut n).1) (t := s.tre + (n - (x.cut n).2)) h h1 ⟨hf, ?_, hd, fun y hy => ?_, ?_, ?_⟩ ?_ (by omega)
    · show 0 ≤ x.bonded - min n x.bonded
      omega
    · have hy := List.mem_filter.1 hy
      have := h7 y hy.1
      have := hy.2
      simp at this
      omega
    · exact (rises_map (sl_eras _ _) h2.e).filter _
    · refine Nat.le_trans (List.length_filter_le _ _) ?_
      rw [sl_len]
      exact h2.n
    · rw [hx]
      unfold Ac.sum
      show _ + (x.free + (x.bonded - min n x.bonded) + x.dep + sumC ((sl x.ch (n - min n x.bonded)).1.filter (fun x => !decide (x.1 = 0)))) = _
      rw [h8, h6, h9]
      omega
theorem sumC_set : ∀ (l : List (Int × Int)) (k : Nat) (y : Int × Int), k < l.length → sumC (l.set k y) = sumC l - (l.getD k d0).1 + y.1
  | x :: l, 0, y, _ => by
    simp only [List.set_cons_zero, sumC]
    show _ = _ - x.1 + _
    omega
  | x :: l, k + 1, y, h => by
    have := sumC_set l k y (by simpa using h)
    simp only [List.set_cons_succ, sumC, this]
    show _ = _ - (l.getD k d0).1 + _
    omega
theorem set_eras (l : List (Int × Int)) (k : Nat) (v : Int) (h : k < l.length) : (l.set k (v, (l.getD k d0).2)).map Prod.snd = l.map Prod.snd := by
  rw [List.map_set]
  apply List.ext_getElem?
  intro j
  rw [List.getElem?_set]
  split
  · rename_i e
    subst e
    simp [h]
  · rfl
theorem thr_cons {x : Int × Int} {l : List (Int × Int)} {era : Int} (h : x.2 < era) : thr (x :: l) era ↔ thr l era := by
  unfold thr
  rw [pos, if_pos h]
  simp
theorem ins_rises {era v : Int} : ∀ {l : List (Int × Int)}, l.Pairwise (fun x y => x.2 < y.2) → ¬ thr l era → (l.take (pos era l) ++ (v, era) :: l.drop (pos era l)).Pairwise (fun x y => x.2 < y.2)
  | [], _, _ => by simp [pos]
  | x :: l, hp, ht => by
    obtain ⟨h1, h2⟩ := List.pairwise_cons.1 hp
    by_cases h : x.2 < era
    · have ih := ins_rises (v := v) h2 (fun h3 => ht ((thr_cons h).2 h3))
      rw [pos, if_pos h, List.take_succ_cons, List.drop_succ_cons, List.cons_append]
      refine List.pairwise_cons.2 ⟨fun y hy => ?_, ih⟩
      rcases List.mem_append.1 hy with hy | hy
      · exact h1 y (List.mem_of_mem_take hy)
      · rcases List.mem_cons.1 hy with rfl | hy
        · exact h
        · exact h1 y (List.mem_of_mem_drop hy)
    · have hne : era < x.2 := by
        have : ¬ x.2 = era := fun e => ht ⟨by rw [pos, if_neg h]; simp, by rw [pos, if_neg h]; exact e⟩
        omega
      rw [pos, if_neg h, List.take_zero, List.drop_zero, List.nil_append]
      refine List.pairwise_cons.2 ⟨fun y hy => ?_, hp⟩
      rcases List.mem_cons.1 hy with rfl | hy
      · exact hne
      · have := h1 y hy
        simp only
        omega
theorem srt_of {l : List (Int × Int)} (h : l.Pairwise (fun x y => x.2 < y.2)) : Srt l := by
  intro i j hij hj
  have := List.pairwise_iff_getElem.1 h i j (by omega) hj hij
  rw [List.getD_eq_getElem?_getD, List.getD_eq_getElem?_getD, List.getElem?_eq_getElem hj, List.getElem?_eq_getElem (by omega)]
  exact this
theorem S.Inv.srt {s : S} (h : s.Inv) (a : Int) : Srt (s.acc.getD a.toNat a0).ch := by
  by_cases h1 : a.toNat < s.acc.length
  · exact srt_of (h.toNn.acc h1).e
  · rw [List.getD_eq_getElem?_getD, List.getElem?_eq_none (by omega)]
    exact fun i j _ hj => absurd hj (by show ¬ j < 0; omega)
theorem S.Inv.few {s : S} (h : s.Inv) (a : Int) : (s.acc.getD a.toNat a0).ch.length ≤ 8 := by
  by_cases h1 : a.toNat < s.acc.length
  · exact (h.toNn.acc h1).n
  · rw [List.getD_eq_getElem?_getD, List.getElem?_eq_none (by omega)]
    show 0 ≤ 8
    omega
theorem unbond_inv {s : S} (h : s.Inv) (a n era : Int) (hn : 0 ≤ n) : s.Keeps (s.unbond a n era).1 := by
  unfold S.unbond
  by_cases h0 : s.bad a
  · rw [if_pos h0]; exact ⟨h, rfl, rfl⟩
  rw [if_neg h0]
  by_cases n0 : n = 0
  · rw [if_pos n0]; exact ⟨h, rfl, rfl⟩
  rw [if_neg n0]
  by_cases n1 : (s.acc.getD a.toNat a0).bonded < n
  · rw [if_pos n1]; exact ⟨h, rfl, rfl⟩
  rw [if_neg n1]
  by_cases n2 : ¬ thr (s.acc.getD a.toNat a0).ch era ∧ 8 ≤ (s.acc.getD a.toNat a0).ch.length
  · rw [if_pos n2]; exact ⟨h, rfl, rfl⟩
  rw [if_neg n2]
  have h1 : a.toNat < s.acc.length := by unfold S.bad at h0; omega
  have h2 := h.toNn.acc h1
  have h3 := acc_le h h1
  have h4 := h2.nn
  generalize hx : s.acc.getD a.toNat a0 = x at n1 n2 h2 h3 h4 ⊢
  have hb := h2.b
  have hf := h2.f
  have hd := h2.d
  have hs : x.sum = x.free + x.bonded + x.dep + sumC x.ch := rfl
  have hpl := pos_le era x.ch
  have key : ∃ R, Ac.unb { x with ch := insC x.ch era } (pos era x.ch) n = { x with bonded := x.bonded - n, ch := R } ∧ sumC R = sumC x.ch + n ∧ (∀ y ∈ R, 0 < y.1) ∧ R.Pairwise (fun x y => x.2 < y.2) ∧ R.length ≤ 8 := by
    by_cases ht : thr x.ch era
    · have hk := ht.1
      have hm := mem_le_sumC h2.ch0 (getD_mem hk)
      have hc := h2.c _ (getD_mem hk)
      refine ⟨_, rfl, ?_, ?_, ?_, ?_⟩
      · simp only [insC, if_pos ht]
        rw [sumC_set _ _ _ hk]
        simp only
        omega
      · simp only [insC, if_pos ht]
        intro y hy
        rcases List.mem_or_eq_of_mem_set hy with h5 | h5
        · exact h2.c y h5
        · rw [h5]
          simp only
          omega
      · simp only [insC, if_pos ht]
        exact rises_map (set_eras _ _ _ hk) h2.e
      · simp only [insC, if_pos ht, List.length_set]
        exact h2.n
    · refine ⟨x.ch.take (pos era x.ch) ++ (n, era) :: x.ch.drop (pos era x.ch), ?_, ?_, ?_, ins_rises h2.e ht, ?_⟩
      · have hl : (x.ch.take (pos era x.ch)).length = pos era x.ch := by rw [List.length_take]; omega
        have hg : (x.ch.take (pos era x.ch) ++ (0, era) :: x.ch.drop (pos era x.ch)).getD (pos era x.ch) d0 = (0, era) := by
          rw [List.getD_eq_getElem?_getD, List.getElem?_append_right (by omega), hl, Nat.sub_self]
          rfl
        unfold Ac.unb
        simp only [insC, if_neg ht, hg]
        rw [List.set_append_right _ _ (by omega), hl, Nat.sub_self, show (0 + n) % 18446744073709551616 = n by omega]
        rfl
      · rw [sumC_app, sumC]
        have := sumC_app (x.ch.take (pos era x.ch)) (x.ch.drop (pos era x.ch))
        rw [List.take_append_drop] at this
        simp only
        omega
      · intro y hy
        rcases List.mem_append.1 hy with hy | hy
        · exact h2.c y (List.mem_of_mem_take hy)
        · rcases List.mem_cons.1 hy with rfl | hy
          · simp only; omega
          · exact h2.c y (List.mem_of_mem_drop hy)
      · have := h2.n
        have : ¬ 8 ≤ x.ch.length := fun h => n2 ⟨ht, h⟩
        simp
        omega
  obtain ⟨R, e, r1, r2, r3, r4⟩ := key
  rw [e]
  refine set_inv (x := { x with bonded := x.bonded - n, ch := R }) (t := s.tre) h h1 ⟨hf, by simp only; omega, hd, r2, r3, r4⟩ ?_ h3.2.2
  rw [hx]
  unfold Ac.sum
  simp only
  omega
theorem sumU_ok : ∀ (l : List Int) (n : Int), (sumU n l).2 = 0 → (sumU n l).1 = n + sumI l ∧ (n < 18446744073709551616 → (sumU n l).1 < 18446744073709551616)
  | [], n, _ => ⟨by simp [sumU, sumI], fun h => h⟩
  | x :: l, n, h => by
    unfold sumU at h ⊢
    split at h
    · rename_i h1
      rw [if_pos h1]
      obtain ⟨h2, h3⟩ := sumU_ok l (n + x) h
      exact ⟨by rw [h2]; simp only [sumI]; omega, fun _ => h3 h1⟩
    · simp at h
theorem sumA_nu : ∀ (l : List Int), sumA (l.map (fun b => ⟨b, 0, 0, []⟩)) = sumI l
  | [] => rfl
  | x :: l => by
    simp only [List.map_cons, sumA, sumI, sumA_nu l]
    simp [Ac.sum, sumC]
theorem new_inv {l : List Int} (hl : AllU l) (hs : (sumU 0 l).2 = 0) : S.Inv ⟨l.map (fun b => ⟨b, 0, 0, []⟩), 0, 0, (sumU 0 l).1⟩ := by
  obtain ⟨h1, h2⟩ := sumU_ok l 0 hs
  refine ⟨⟨Int.le_refl _, Int.le_refl _, fun x hx => ?_⟩, ?_, h2 (by omega)⟩
  · obtain ⟨b, hb, rfl⟩ := List.mem_map.1 hx
    exact ⟨(hl b hb).1, Int.le_refl _, Int.le_refl _, fun y hy => by simp at hy, List.Pairwise.nil, by show 0 ≤ 8; omega⟩
  · show 0 + 0 + sumA _ = (sumU 0 l).1
    rw [sumA_nu, h1]
    omega
end Go.Proofs.Ytpndkelbchjkiaa
