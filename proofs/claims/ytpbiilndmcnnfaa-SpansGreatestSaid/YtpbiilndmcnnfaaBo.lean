/- Spans: the program's spans and the document's, side by side. -/
import Derived.Test.YtpbiilndmcnnfaaRc
set_option linter.unusedVariables false
set_option linter.unusedSimpArgs false
namespace Go.Proofs.Ytpbiilndmcnnfaa
open Go.RowKit Go.Ps

structure Both (w : World) (B0 b : Nat) (v1 v2 : Value) (ends charges : List Int) (b' : Nat) (v1' : Value) (B : Nat) (begin_ : List Int) (ps : List (Int × Value)) : Prop where
  S : SRep w b v1 v2 ends charges
  R : RRep w b' v1' B begin_ ps
  D : ∀ k, Foot b v1 v2 k → ¬ RFoot b' v1' B k
  L : ∀ k, (Foot b v1 v2 k ∨ RFoot b' v1' B k) → B0 ≤ k
section
variable {w w' : World} {B0 b : Nat} {v1 v2 : Value} {ends charges : List Int} {b' : Nat} {v1' : Value} {B : Nat} {begin_ : List Int} {ps : List (Int × Value)}
theorem Both.keep (h : Both w B0 b v1 v2 ends charges b' v1' B begin_ ps) (hc : Chg (fun _ => False) w w') : Both w' B0 b v1 v2 ends charges b' v1' B begin_ ps :=
  ⟨h.S.chg hc (fun _ _ => id), h.R.chg hc (fun _ _ => id), h.D, h.L⟩
theorem Both.stepS (h : Both w B0 b v1 v2 ends charges b' v1' B begin_ ps) (hB0 : B0 ≤ w.heap.size) {u1 u2 : Value} {ends2 charges2 : List Int} (hs : SRep w' b u1 u2 ends2 charges2) (hc : Chg (Foot b v1 v2) w w')
    (h1 : ∀ k, u1.ownBlock = some k → v1.ownBlock = some k ∨ w.heap.size ≤ k) (h2 : ∀ k, u2.ownBlock = some k → v2.ownBlock = some k ∨ w.heap.size ≤ k) : Both w' B0 b u1 u2 ends2 charges2 b' v1' B begin_ ps := by
  have key : ∀ k, Foot b u1 u2 k → Foot b v1 v2 k ∨ w.heap.size ≤ k := fun k hk => by
    rcases hk with hk | hk | hk
    · exact Or.inl (Or.inl hk)
    · rcases h1 k hk with h | h
      · exact Or.inl (Or.inr (Or.inl h))
      · exact Or.inr h
    · rcases h2 k hk with h | h
      · exact Or.inl (Or.inr (Or.inr h))
      · exact Or.inr h
  refine ⟨hs, h.R.chg hc (fun k hk hf => h.D k hf hk), fun k hk hr => ?_, fun k hk => ?_⟩
  · rcases key k hk with h3 | h3
    · exact h.D k h3 hr
    · have := h.R.lt hr; omega
  · rcases hk with hk | hk
    · rcases key k hk with h3 | h3
      · exact h.L k (Or.inl h3)
      · omega
    · exact h.L k (Or.inr hk)
theorem Both.stepR (h : Both w B0 b v1 v2 ends charges b' v1' B begin_ ps) (hB0 : B0 ≤ w.heap.size) {u1 : Value} {begin2 : List Int} {ps2 : List (Int × Value)} (hr : RRep w' b' u1 B begin2 ps2) {F : Nat → Prop} (hc : Chg F w w') (hF : ∀ k, F k → RFoot b' v1' B k)
    (h1 : ∀ k, u1.ownBlock = some k → v1'.ownBlock = some k ∨ w.heap.size ≤ k) : Both w' B0 b v1 v2 ends charges b' u1 B begin2 ps2 := by
  have key : ∀ k, RFoot b' u1 B k → RFoot b' v1' B k ∨ w.heap.size ≤ k := fun k hk => by
    rcases hk with hk | hk | hk
    · exact Or.inl (Or.inl hk)
    · rcases h1 k hk with h | h
      · exact Or.inl (Or.inr (Or.inl h))
      · exact Or.inr h
    · exact Or.inl (Or.inr (Or.inr hk))
  refine ⟨h.S.chg hc (fun k hk hf => h.D k hk (hF k hf)), hr, fun k hk hr => ?_, fun k hk => ?_⟩
  · rcases key k hr with h3 | h3
    · exact h.D k hk h3
    · have := h.S.lt hk; omega
  · rcases hk with hk | hk
    · exact h.L k (Or.inl hk)
    · rcases key k hk with h3 | h3
      · exact h.L k (Or.inr h3)
      · omega
end

/-! ### the two answer alike -/
structure Sim (ends charges begin_ : List Int) (ps : List (Int × Value)) : Prop where
  e : begin_ = ends.map (· + 1)
  g : GetsF ps (chargedOf charges)
  u : ∀ x ∈ charges, U64 x
  l : charges.length ≤ ends.length + 1
theorem rpos_map (ends : List Int) (x : Int) : rpos (ends.map (· + 1)) x = posOf ends x := by
  unfold rpos posOf
  induction ends with
  | nil => rfl
  | cons y l ih =>
    by_cases h : y < x
    · have h' : y + 1 ≤ x := by omega
      simpa [h, h'] using ih
    · have h' : ¬ y + 1 ≤ x := by omega
      simp [h, h']
theorem Sim.pos {ends charges begin_ : List Int} {ps : List (Int × Value)} (h : Sim ends charges begin_ ps) (x : Int) : rpos begin_ x = posOf ends x := by rw [h.e, rpos_map]
theorem Sim.rend {ends charges begin_ : List Int} {ps : List (Int × Value)} (h : Sim ends charges begin_ ps) (x : Int) : rendB begin_ x = endB ends x := by
  unfold rendB endB
  rw [h.pos, h.e, List.length_map]
theorem chargedOf_pos {l : List Int} {k : Nat} (h : k < l.length) : chargedOf l k = l.getD k 0 := by
  rw [chargedOf, if_neg (by omega), Int.toNat_natCast]
theorem chargedOf_u {l : List Int} (h : ∀ x ∈ l, U64 x) (k : Int) : U64 (chargedOf l k) := by
  unfold chargedOf
  split
  · exact ⟨by omega, by omega⟩
  · rename_i hk
    rw [List.getD_eq_getElem?_getD, List.getElem?_eq_getElem (by omega)]
    exact h _ (List.getElem_mem _)
theorem pad_length (n : Nat) (l : List Int) (h : l.length ≤ n) : (pad n l).length = n := by simp [pad]; omega
theorem chargedOf_pad (n : Nat) (l : List Int) (k : Int) : chargedOf (pad n l) k = chargedOf l k := by
  unfold chargedOf pad
  by_cases h0 : k < 0
  · simp [h0]
  · by_cases h1 : k < l.length
    · rw [if_neg (by rw [List.length_append]; omega), if_neg (by omega)]
      rw [List.getD_eq_getElem?_getD, List.getD_eq_getElem?_getD, List.getElem?_append_left (by omega)]
    · rw [if_pos (show k < 0 ∨ (l.length : Int) ≤ k from Or.inr (by omega))]
      split
      · rfl
      · rw [List.getD_eq_getElem?_getD, List.getElem?_append_right (by omega), List.getElem?_replicate]
        split <;> rfl
theorem chargedOf_set (l : List Int) (n : Nat) (x : Int) (hn : n < l.length) (k : Int) : chargedOf (l.set n x) k = if k = n then x else chargedOf l k := by
  unfold chargedOf
  by_cases hk : k = n
  · subst hk
    rw [if_neg (by simp; omega), if_pos rfl, Int.toNat_natCast, List.getD_eq_getElem?_getD, List.getElem?_set_self hn]
    rfl
  · rw [if_neg hk, List.length_set]
    split
    · rfl
    · rw [List.getD_eq_getElem?_getD, List.getD_eq_getElem?_getD, List.getElem?_set_ne (by omega)]
theorem pad_get (ends charges : List Int) (era : Int) (hl : charges.length ≤ ends.length + 1) : (pad (ends.length + 1) charges).getD (posOf ends era) 0 = chargedOf charges (posOf ends era) := by
  have h1 := posOf_le ends era
  rw [← chargedOf_pad (ends.length + 1) charges (posOf ends era), chargedOf_pos (by rw [pad_length _ _ hl]; omega)]
theorem charged_after (ends charges : List Int) (era amount : Int) (hl : charges.length ≤ ends.length + 1) (k : Int) :
    chargedOf (chargeAfter ends charges era amount) k = if 0 ≤ era ∧ k = posOf ends era then mxI (chargedOf charges k) amount else chargedOf charges k := by
  unfold chargeAfter
  by_cases h0 : era < 0
  · rw [if_pos h0, if_neg (by omega)]
  · have h1 := posOf_le ends era
    rw [if_neg h0, chargedOf_set _ _ _ (by rw [pad_length _ _ hl]; omega), chargedOf_pad, pad_get _ _ _ hl]
    by_cases hk : k = posOf ends era
    · rw [if_pos hk, if_pos ⟨by omega, hk⟩, hk]
    · rw [if_neg hk, if_neg (by omega)]
theorem charge_rose (ends charges : List Int) (era amount : Int) (hl : charges.length ≤ ends.length + 1) :
    chargeRose ends charges era amount = if era < 0 then 0 else mxI (chargedOf charges (posOf ends era)) amount - chargedOf charges (posOf ends era) := by
  unfold chargeRose
  rw [pad_get _ _ _ hl]
theorem mxI_u {a b : Int} (ha : U64 a) (hb : U64 b) : U64 (mxI a b) := by unfold mxI; split <;> assumption
theorem pad_u {l : List Int} (h : ∀ x ∈ l, U64 x) (n : Nat) : ∀ x ∈ pad n l, U64 x := by
  intro x hx
  unfold pad at hx
  rcases List.mem_append.1 hx with hx | hx
  · exact h x hx
  · rw [List.eq_of_mem_replicate hx]
    exact ⟨by omega, by omega⟩
theorem charge_u {ends charges : List Int} {era amount : Int} (h : ∀ x ∈ charges, U64 x) (ha : U64 amount) : ∀ x ∈ chargeAfter ends charges era amount, U64 x := by
  unfold chargeAfter
  split
  · exact h
  · intro x hx
    rcases List.mem_or_eq_of_mem_set hx with hx | hx
    · exact pad_u h _ x hx
    · rw [hx]
      refine mxI_u ?_ ha
      rw [List.getD_eq_getElem?_getD]
      cases hg : (pad (ends.length + 1) charges)[posOf ends era]? with
      | none => exact ⟨by simp, by simp⟩
      | some y => exact pad_u h _ y (List.mem_of_getElem? hg)
theorem charge_l {ends charges : List Int} {era amount : Int} (h : charges.length ≤ ends.length + 1) : (chargeAfter ends charges era amount).length ≤ ends.length + 1 := by
  unfold chargeAfter
  split
  · exact h
  · rw [List.length_set, pad_length _ _ h]; exact Nat.le_refl _
theorem Sim.charge {ends charges begin_ : List Int} {ps ps' : List (Int × Value)} (h : Sim ends charges begin_ ps) {era amount : Int} (ha : U64 amount) (hg : GetsF ps' (rAfter (chargedOf charges) begin_ era amount)) :
    Sim ends (chargeAfter ends charges era amount) begin_ ps' ∧ rRose (chargedOf charges) begin_ era amount = chargeRose ends charges era amount := by
  refine ⟨⟨h.e, fun k => ?_, charge_u h.u ha, charge_l h.l⟩, ?_⟩
  · rw [hg k, charged_after _ _ _ _ h.l, rAfter, h.pos]
  · rw [charge_rose _ _ _ _ h.l, rRose, h.pos]
theorem Sim.end_ {ends charges begin_ : List Int} {ps : List (Int × Value)} (h : Sim ends charges begin_ ps) (era : Int) :
    Sim (if endB ends era then ends ++ [era] else ends) charges (if rendB begin_ era then begin_ ++ [era + 1] else begin_) ps := by
  rw [h.rend]
  split
  · exact ⟨by rw [h.e, List.map_append]; rfl, h.g, h.u, by have := h.l; simp; omega⟩
  · exact h
end Go.Proofs.Ytpbiilndmcnnfaa
