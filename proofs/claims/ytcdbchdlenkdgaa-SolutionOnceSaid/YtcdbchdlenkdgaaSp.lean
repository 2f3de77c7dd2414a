/- Solutions: what the reference's Decode computes, and that it is the same (plain Lean). -/
import Derived.Test.YtcdbchdlenkdgaaSo
set_option linter.unusedVariables false
set_option linter.unusedSimpArgs false
namespace Go.Ps

/-- All numbers that bytes are; f: more rounds than there are numbers. -/
def rall : Nat → List Int → Option (List Int)
  | 0, _ => some []
  | f + 1, l => if l.length = 0 then some [] else if (tk l).2.2 = 0 then (rall f (l.drop (tk l).2.1.toNat)).map ((tk l).1 :: ·) else none
theorem rall_nil (f : Nat) : rall f [] = some [] := by cases f <;> simp [rall]
theorem enc_pos (n : Int) : 0 < (enc n).length := by rw [enc_length]; have := csz_le n; omega
theorem rall_encs : ∀ (ns : List Int) (f : Nat), (∀ n ∈ ns, U64' n) → (encs ns).length ≤ f → rall f (encs ns) = some ns
  | [], f, _, _ => rall_nil f
  | n :: ns, 0, h, hf => by
    have := enc_pos n
    simp only [encs, List.length_append] at hf
    omega
  | n :: ns, f + 1, h, hf => by
    have hp := enc_pos n
    have hn := h n (by simp)
    simp only [encs, List.length_append] at hf ⊢
    unfold rall
    rw [if_neg (by simp only [List.length_append]; omega), tk_enc hn]
    simp only [if_true, Int.toNat_natCast]
    rw [← enc_length n, List.drop_left, rall_encs ns f (fun m hm => h m (by simp [hm])) (by omega)]
    rfl
theorem rall_ok : ∀ (f : Nat) (l ns : List Int), Bytes l → l.length ≤ f → rall f l = some ns → encs ns = l ∧ ∀ n ∈ ns, U64' n
  | 0, l, ns, hb, hf, h => by
    obtain rfl : l = [] := List.eq_nil_of_length_eq_zero (by omega)
    simp [rall] at h
    subst h
    exact ⟨rfl, by simp⟩
  | f + 1, l, ns, hb, hf, h => by
    unfold rall at h
    by_cases h0 : l.length = 0
    · rw [if_pos h0] at h
      cases h
      exact ⟨by rw [List.eq_nil_of_length_eq_zero h0]; rfl, by simp⟩
    · rw [if_neg h0] at h
      by_cases he : (tk l).2.2 = 0
      · rw [if_pos he] at h
        obtain ⟨ms, hms, rfl⟩ := Option.map_eq_some_iff.1 h
        rcases tk_facts hb with h1 | h1
        · obtain ⟨_, hu, hk1, hk2, hk3, hen⟩ := h1
          obtain ⟨g1, g2⟩ := rall_ok f _ ms (hb.drop _) (by rw [List.length_drop]; omega) hms
          refine ⟨?_, ?_⟩
          · rw [encs, g1, hen, List.take_append_drop]
          · intro n hn
            rcases List.mem_cons.1 hn with rfl | hn
            · exact hu
            · exact g2 n hn
        · omega
      · rw [if_neg he] at h
        cases h

def comOf (m : Nat) (ns : List Int) : List Int := (List.range m).map fun i => ns.getD (1 + i) 0
def edgesOf (at_ e : Nat) (ns : List Int) : List (Int × Int × Int) := (List.range e).map fun i => (ns.getD (at_ + 3 * i) 0, ns.getD (at_ + 3 * i + 1) 0, ns.getD (at_ + 3 * i + 2) 0)
def solOf (m e : Nat) (ns : List Int) : Sol := ⟨comOf m ns, edgesOf (2 + m) e ns, ns.getD (2 + m + 3 * e) 0, ns.getD (2 + m + 3 * e + 1) 0, ns.getD (2 + m + 3 * e + 2) 0, ns.getD (2 + m + 3 * e + 3) 0⟩
def low31 (ns : List Int) (i : Nat) : Bool := decide (ns.getD i 0 ≤ 2147483647)
def rparse (ns : List Int) : Sol × Int :=
  if ns.length < 6 ∨ 8 < ns.getD 0 0 ∨ ns.length < 2 + (ns.getD 0 0).toNat then (sol0, 2) else
  if 256 < ns.getD (1 + (ns.getD 0 0).toNat) 0 ∨ ns.length ≠ (ns.getD 0 0).toNat + 3 * (ns.getD (1 + (ns.getD 0 0).toNat) 0).toNat + 6 then (sol0, 2) else
  if (List.range (1 + (ns.getD 0 0).toNat)).all (low31 ns) = false then (sol0, 2) else
  if (List.range (ns.getD (1 + (ns.getD 0 0).toNat) 0).toNat).all (fun i => low31 ns (2 + (ns.getD 0 0).toNat + 3 * i) && low31 ns (2 + (ns.getD 0 0).toNat + 3 * i + 1)) = false then (sol0, 2) else
  if formedS (solOf (ns.getD 0 0).toNat (ns.getD (1 + (ns.getD 0 0).toNat) 0).toNat ns) = true then (solOf (ns.getD 0 0).toNat (ns.getD (1 + (ns.getD 0 0).toNat) 0).toNat ns, 0) else (sol0, 2)
def rdecS (l : List Int) : Sol × Int :=
  if 20000 < l.length then (sol0, 4) else
  match rall l.length l with
  | none => (sol0, 2)
  | some ns => rparse ns

theorem getD_cat_l {α : Type} (l m : List α) (z : α) (i : Nat) (h : i < l.length) : (l ++ m).getD i z = l.getD i z := by
  simp only [List.getD_eq_getElem?_getD]
  rw [List.getElem?_append_left h]
theorem getD_cat_r {α : Type} (l m : List α) (z : α) (i : Nat) : (l ++ m).getD (l.length + i) z = m.getD i z := by
  simp only [List.getD_eq_getElem?_getD]
  rw [List.getElem?_append_right (by omega), Nat.add_sub_cancel_left]
theorem ext_getD {α : Type} {l m : List α} (z : α) (hl : l.length = m.length) (h : ∀ i, i < l.length → l.getD i z = m.getD i z) : l = m := by
  apply List.ext_getElem hl
  intro i h1 h2
  have := h i h1
  simp only [List.getD_eq_getElem?_getD, List.getElem?_eq_getElem h1, List.getElem?_eq_getElem h2, Option.getD_some] at this
  exact this
/-- Where a solution's numbers stand. -/
theorem numsS_at (x : Sol) : (numsS x).getD 0 0 = x.com.length ∧ (∀ i, i < x.com.length → (numsS x).getD (1 + i) 0 = x.com.getD i 0) ∧ (numsS x).getD (1 + x.com.length) 0 = x.edges.length ∧
    (∀ i, i < x.edges.length → (numsS x).getD (2 + x.com.length + 3 * i) 0 = (x.edges.getD i d3).1 ∧ (numsS x).getD (2 + x.com.length + 3 * i + 1) 0 = (x.edges.getD i d3).2.1 ∧ (numsS x).getD (2 + x.com.length + 3 * i + 2) 0 = (x.edges.getD i d3).2.2) ∧
    (numsS x).getD (2 + x.com.length + 3 * x.edges.length) 0 = x.mn ∧ (numsS x).getD (2 + x.com.length + 3 * x.edges.length + 1) 0 = x.sm ∧ (numsS x).getD (2 + x.com.length + 3 * x.edges.length + 2) 0 = x.hi ∧ (numsS x).getD (2 + x.com.length + 3 * x.edges.length + 3) 0 = x.lo := by
  have hA : ∀ j, (numsS x).getD (2 + x.com.length + j) 0 = (flat x.edges ++ [x.mn, x.sm, x.hi, x.lo]).getD j 0 := fun j => by
    unfold numsS
    rw [show 2 + x.com.length + j = (x.com.length + (j + 1)) + 1 by omega, List.getD_cons_succ, getD_cat_r, List.getD_cons_succ]
  refine ⟨rfl, fun i hi => ?_, ?_, fun i hi => ?_, ?_⟩
  · unfold numsS
    rw [Nat.add_comm 1 i, List.getD_cons_succ, getD_cat_l _ _ _ _ hi]
  · unfold numsS
    rw [Nat.add_comm 1 _, List.getD_cons_succ]
    have := getD_cat_r x.com ((x.edges.length : Int) :: (flat x.edges ++ [x.mn, x.sm, x.hi, x.lo])) 0 0
    rw [Nat.add_zero] at this
    rw [this]
    rfl
  · have hl := flat_length x.edges
    obtain ⟨f1, f2, f3⟩ := flat_getD x.edges i hi
    rw [Nat.add_assoc (2 + x.com.length), Nat.add_assoc (2 + x.com.length), hA, hA, hA, getD_cat_l _ _ _ _ (by omega), getD_cat_l _ _ _ _ (by omega), getD_cat_l _ _ _ _ (by omega)]
    exact ⟨f1, f2, f3⟩
  · have hl := flat_length x.edges
    have hB : ∀ j, (numsS x).getD (2 + x.com.length + 3 * x.edges.length + j) 0 = [x.mn, x.sm, x.hi, x.lo].getD j 0 := fun j => by
      rw [Nat.add_assoc, hA, ← hl, getD_cat_r]
    exact ⟨hB 0, hB 1, hB 2, hB 3⟩
theorem getD_map_range {α : Type} (n : Nat) (f : Nat → α) (z : α) (i : Nat) (h : i < n) : ((List.range n).map f).getD i z = f i := by
  simp [List.getD_eq_getElem?_getD, h]
theorem solOf_nums (x : Sol) : solOf x.com.length x.edges.length (numsS x) = x := by
  obtain ⟨h1, h2, h3, h4, h5, h6, h7, h8⟩ := numsS_at x
  obtain ⟨com, edges, mn, sm, hi, lo⟩ := x
  simp only at *
  unfold solOf
  rw [h5, h6, h7, h8]
  have hc : comOf com.length (numsS ⟨com, edges, mn, sm, hi, lo⟩) = com := by
    refine ext_getD 0 (by simp [comOf]) (fun i hi => ?_)
    simp only [comOf, List.length_map, List.length_range] at hi
    unfold comOf
    rw [getD_map_range _ _ _ _ hi, h2 i hi]
  have he : edgesOf (2 + com.length) edges.length (numsS ⟨com, edges, mn, sm, hi, lo⟩) = edges := by
    refine ext_getD d3 (by simp [edgesOf]) (fun i hi => ?_)
    simp only [edgesOf, List.length_map, List.length_range] at hi
    unfold edgesOf
    rw [getD_map_range _ _ _ _ hi]
    obtain ⟨f1, f2, f3⟩ := h4 i hi
    rw [f1, f2, f3]
  rw [hc, he]
theorem rparse_enc {x : Sol} (hk : x.ok) (hf : formedS x = true) : rparse (numsS x) = (x, 0) := by
  obtain ⟨h1, h2, h3, h4, h5, h6, h7, h8⟩ := numsS_at x
  obtain ⟨f1, f2, _, _⟩ := (formedS_iff x).1 hf
  have hl := numsS_length x
  unfold rparse
  rw [h1, Int.toNat_natCast, h3, Int.toNat_natCast, solOf_nums]
  rw [if_neg (by omega), if_neg (by omega), if_neg, if_neg, if_pos hf]
  · simp only [Bool.not_eq_false, List.all_eq_true, List.mem_range, Bool.and_eq_true, low31, decide_eq_true_eq]
    intro i hi
    obtain ⟨g1, g2, g3⟩ := h4 i hi
    have hm : x.edges.getD i d3 ∈ x.edges := by rw [List.getD_eq_getElem?_getD, List.getElem?_eq_getElem hi]; exact List.getElem_mem hi
    have := formed_edge hf _ hm
    rw [g1, g2]
    exact ⟨this.1.2, this.2.1.2⟩
  · simp only [Bool.not_eq_false, List.all_eq_true, List.mem_range, Bool.and_eq_true, low31, decide_eq_true_eq]
    intro i hi
    rcases Nat.eq_zero_or_pos i with rfl | hp
    · rw [h1]; omega
    · obtain ⟨j, rfl⟩ : ∃ j, i = 1 + j := ⟨i - 1, by omega⟩
      rw [h2 j (by omega)]
      have hm : x.com.getD j 0 ∈ x.com := by rw [List.getD_eq_getElem?_getD, List.getElem?_eq_getElem (by omega)]; exact List.getElem_mem _
      exact (formed_com hf _ hm).2
theorem rparse_ok {ns : List Int} (hu : ∀ n ∈ ns, U64' n) {x : Sol} (h : rparse ns = (x, 0)) : x.ok ∧ formedS x = true ∧ numsS x = ns := by
  unfold rparse at h
  have hg : ∀ i, U64' (ns.getD i 0) := getD_u64 ns hu
  obtain ⟨m, hm⟩ : ∃ m : Nat, ns.getD 0 0 = m := ⟨(ns.getD 0 0).toNat, by have := (hg 0).1; omega⟩
  rw [hm, Int.toNat_natCast] at h
  obtain ⟨e, he⟩ : ∃ e : Nat, ns.getD (1 + m) 0 = e := ⟨(ns.getD (1 + m) 0).toNat, by have := (hg (1 + m)).1; omega⟩
  rw [he, Int.toNat_natCast] at h
  split at h
  · simp at h
  rename_i c1
  split at h
  · simp at h
  rename_i c2
  split at h
  · simp at h
  rename_i c3
  split at h
  · simp at h
  rename_i c4
  split at h
  · rename_i c5
    simp only [Prod.mk.injEq, and_true] at h
    have hlen : ns.length = m + 3 * e + 6 := by omega
    have hcl : (comOf m ns).length = m := by simp [comOf]
    have hel : (edgesOf (2 + m) e ns).length = e := by simp [edgesOf]
    have hnum : numsS (solOf m e ns) = ns := by
      obtain ⟨h1, h2, h3, h4, h5, h6, h7, h8⟩ := numsS_at (solOf m e ns)
      have hl := numsS_length (solOf m e ns)
      have ec : (solOf m e ns).com.length = m := hcl
      have ee : (solOf m e ns).edges.length = e := hel
      rw [ec] at h1 h2 h3 h4 h5 h6 h7 h8 hl
      rw [ee] at h3 h4 h5 h6 h7 h8 hl
      refine ext_getD 0 (by omega) (fun i hi => ?_)
      rw [hl] at hi
      rcases Nat.eq_zero_or_pos i with rfl | hp
      · rw [h1, hm]
      · by_cases c : i < 1 + m
        · obtain ⟨j, rfl⟩ : ∃ j, i = 1 + j := ⟨i - 1, by omega⟩
          rw [h2 j (by omega)]
          exact getD_map_range _ _ _ _ (by omega)
        · by_cases c : i = 1 + m
          · subst c; rw [h3, he]
          · by_cases c : i < 2 + m + 3 * e
            · have hj : (i - (2 + m)) / 3 < e := by omega
              obtain ⟨f1, f2, f3⟩ := h4 _ hj
              have hx : (solOf m e ns).edges.getD ((i - (2 + m)) / 3) d3 = (ns.getD (2 + m + 3 * ((i - (2 + m)) / 3)) 0, ns.getD (2 + m + 3 * ((i - (2 + m)) / 3) + 1) 0, ns.getD (2 + m + 3 * ((i - (2 + m)) / 3) + 2) 0) := getD_map_range _ _ _ _ hj
              rw [hx] at f1 f2 f3
              have hr : (i - (2 + m)) % 3 = 0 ∨ (i - (2 + m)) % 3 = 1 ∨ (i - (2 + m)) % 3 = 2 := by omega
              rcases hr with hr | hr | hr
              · have : i = 2 + m + 3 * ((i - (2 + m)) / 3) := by omega
                rw [this]; exact f1
              · have : i = 2 + m + 3 * ((i - (2 + m)) / 3) + 1 := by omega
                rw [this]; exact f2
              · have : i = 2 + m + 3 * ((i - (2 + m)) / 3) + 2 := by omega
                rw [this]; exact f3
            · have hc : i = 2 + m + 3 * e ∨ i = 2 + m + 3 * e + 1 ∨ i = 2 + m + 3 * e + 2 ∨ i = 2 + m + 3 * e + 3 := by omega
              rcases hc with rfl | rfl | rfl | rfl
              · rw [h5]; rfl
              · rw [h6]; rfl
              · rw [h7]; rfl
              · rw [h8]; rfl
    subst h
    refine ⟨⟨fun n hn => ?_, fun p hp => ?_, hg _, hg _, hg _, hg _⟩, c5, hnum⟩
    · have := formed_com c5 n hn
      exact ⟨by have := this.1.1; omega, by omega⟩
    · have h9 := formed_edge c5 p hp
      refine ⟨⟨by have := h9.1.1.1; omega, by omega⟩, ⟨by have := h9.2.1.1.1; omega, by omega⟩, ?_⟩
      have hp' : p ∈ edgesOf (2 + m) e ns := hp
      simp only [edgesOf, List.mem_map, List.mem_range] at hp'
      obtain ⟨i, _, rfl⟩ := hp'
      exact hg _
  · simp at h
theorem rparse_err (ns : List Int) : (rparse ns).2 = 0 ∨ rparse ns = (sol0, 2) := by
  unfold rparse
  repeat' split
  all_goals first | exact .inr rfl | exact .inl rfl
theorem rdecS_eq {l : List Int} (hb : Bytes l) : rdecS l = decS l := by
  have hd := decS_err l
  have hi := fun x => decS_iff hb x
  by_cases hl : 20000 < l.length
  · rw [if_pos hl] at hd
    unfold rdecS decS
    rw [if_pos hl, if_pos hl]
  · rw [if_neg hl] at hd
    have hr : (rdecS l).2 = 0 ∨ rdecS l = (sol0, 2) := by
      unfold rdecS
      rw [if_neg hl]
      cases rall l.length l with
      | none => exact .inr rfl
      | some ns => exact rparse_err ns
    have hri : ∀ x, rdecS l = (x, 0) ↔ x.ok ∧ formedS x = true ∧ encS x = l := by
      intro x
      constructor
      · intro h
        unfold rdecS at h
        rw [if_neg hl] at h
        cases hn : rall l.length l with
        | none => rw [hn] at h; simp at h
        | some ns =>
          rw [hn] at h
          simp only at h
          obtain ⟨g1, g2⟩ := rall_ok _ l ns hb (Nat.le_refl _) hn
          obtain ⟨a1, a2, a3⟩ := rparse_ok g2 h
          refine ⟨a1, a2, ?_⟩
          unfold encS
          rw [a3, g1]
      · rintro ⟨h1, h2, rfl⟩
        unfold rdecS
        rw [if_neg hl]
        have := rall_encs (numsS x) (encS x).length (numsS_u64 h1 h2) (Nat.le_refl _)
        unfold encS at this ⊢
        rw [this]
        exact rparse_enc h1 h2
    rcases hr with h | h
    · have h1 : rdecS l = ((rdecS l).1, 0) := Prod.ext rfl h
      rw [h1, (hi _).2 ((hri _).1 h1)]
    · rcases hd with h' | h'
      · have h1 : decS l = ((decS l).1, 0) := Prod.ext rfl h'
        have h2 := (hri _).2 ((hi _).1 h1)
        rw [h2] at h
        simp at h
      · rw [h, h']
end Go.Ps
