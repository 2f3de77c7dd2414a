/- A chain in memory: members in a row, each a block of its own; a map from handles to them. -/
import Derived.Test.YthoagpagnldmeaaProg
import Derived.Test.YthoagpagnldmeaaK4
set_option linter.unusedVariables false
set_option linter.unusedSimpArgs false
namespace Go.Proofs.Ythoagpagnldmeaa
open Go.RowKit Go.Ps
/-- A member: its block, its handle, what it holds. -/
structure Mem where
  b : Nat
  h : Int
  v : Value
def ptr (o : Option Nat) : Value := .pointer (o.map fun b => ⟨b, 0, none⟩)
theorem ptr_some (b : Nat) : ptr (some b) = .pointer (some ⟨b, 0, none⟩) := rfl
theorem ptr_none : ptr none = .pointer none := rfl
def hd : List Mem → Option Nat → Option Nat
  | [], q => q
  | x :: _, _ => some x.b
def lst : Option Nat → List Mem → Option Nat
  | p, [] => p
  | _, x :: X => lst (some x.b) X
theorem hd_append (A B : List Mem) (q : Option Nat) : hd (A ++ B) q = hd A (hd B q) := by cases A <;> rfl
theorem lst_append : ∀ (A B : List Mem) (p : Option Nat), lst p (A ++ B) = lst (lst p A) B
  | [], B, p => rfl
  | x :: A, B, p => lst_append A B (some x.b)
theorem lst_snoc (A : List Mem) (x : Mem) (p : Option Nat) : lst p (A ++ [x]) = some x.b := by rw [lst_append]; rfl
section
variable (tm : TypeId)
def Node (W : World) (x : Mem) (p q : Option Nat) : Prop := W.heap[x.b]? = some (.cells #[.int .i64 x.h, x.v, ptr p, ptr q] tm (0, 0))
def Seg (W : World) : Option Nat → List Mem → Option Nat → Prop
  | _, [], _ => True
  | p, x :: X, q => Node tm W x p (hd X q) ∧ Seg W (some x.b) X q
end
variable {tm tc : TypeId} {W W' : World}
theorem Node.same {x : Mem} {p q : Option Nat} (h : Node tm W x p q) (e : W'.heap[x.b]? = W.heap[x.b]?) : Node tm W' x p q := e.trans h
theorem Seg.same : ∀ {X : List Mem} {p q : Option Nat}, Seg tm W p X q → (∀ x ∈ X, W'.heap[x.b]? = W.heap[x.b]?) → Seg tm W' p X q
  | [], _, _, _, _ => trivial
  | x :: X, p, q, h, e => ⟨h.1.same (e x (by simp)), Seg.same h.2 (fun y hy => e y (by simp [hy]))⟩
theorem seg_append : ∀ {A B : List Mem} {p q : Option Nat}, Seg tm W p (A ++ B) q ↔ Seg tm W p A (hd B q) ∧ Seg tm W (lst p A) B q
  | [], B, p, q => by simp [Seg, lst]
  | x :: A, B, p, q => by
    simp only [List.cons_append, Seg, lst]
    rw [seg_append (A := A) (B := B), hd_append, and_assoc]
theorem Seg.node : ∀ {A B : List Mem} {x : Mem} {p q : Option Nat}, Seg tm W p (A ++ x :: B) q → Node tm W x (lst p A) (hd B q) := fun h => (seg_append.1 h).2.1
theorem Seg.mem : ∀ {X : List Mem} {p q : Option Nat}, Seg tm W p X q → ∀ x ∈ X, ∃ p' q', Node tm W x p' q'
  | [], _, _, _, _, hx => by cases hx
  | y :: X, p, q, h, x, hx => by
    rcases List.mem_cons.1 hx with rfl | hx
    · exact ⟨_, _, h.1⟩
    · exact h.2.mem x hx
theorem node_next {x : Mem} {p q q' : Option Nat} (h : Node tm W x p q) : Node tm (W.setCell ⟨x.b, 3, none⟩ (ptr q')) x p q' := by
  unfold Node at *; rw [heap_setCell h]; rfl
theorem node_ahead {x : Mem} {p q p' : Option Nat} (h : Node tm W x p q) : Node tm (W.setCell ⟨x.b, 2, none⟩ (ptr p')) x p' q := by
  unfold Node at *; rw [heap_setCell h]; rfl
theorem node_val {x : Mem} {p q : Option Nat} (h : Node tm W x p q) (v : Value) : Node tm (W.setCell ⟨x.b, 1, none⟩ v) ⟨x.b, x.h, v⟩ p q := by
  unfold Node at *; rw [heap_setCell h]; rfl
/-- The last one's next is set. -/
theorem Seg.setNext {A : List Mem} {a : Mem} {p q q' : Option Nat} (h : Seg tm W p (A ++ [a]) q) (hn : ∀ x ∈ A, x.b ≠ a.b) : Seg tm (W.setCell ⟨a.b, 3, none⟩ (ptr q')) p (A ++ [a]) q' := by
  rw [seg_append] at h ⊢
  exact ⟨h.1.same (fun x hx => heap_setCell_ne (hn x hx) _), node_next h.2.1, trivial⟩
theorem Seg.setAhead {B : List Mem} {b : Mem} {p p' q : Option Nat} (h : Seg tm W p (b :: B) q) (hn : ∀ x ∈ B, x.b ≠ b.b) : Seg tm (W.setCell ⟨b.b, 2, none⟩ (ptr p')) p' (b :: B) q :=
  ⟨node_ahead h.1, h.2.same (fun x hx => heap_setCell_ne (hn x hx) _)⟩
theorem Seg.cellNe {X : List Mem} {p q : Option Nat} (h : Seg tm W p X q) {c j : Nat} (hn : ∀ x ∈ X, x.b ≠ c) (v : Value) : Seg tm (W.setCell ⟨c, j, none⟩ v) p X q := h.same (fun x hx => heap_setCell_ne (hn x hx) _)

/-- The blocks of members. -/
def In (X : List Mem) (k : Nat) : Prop := ∃ x ∈ X, x.b = k
/-- The row in memory: the chain's block g, its members. -/
structure Row (tm tc : TypeId) (W : World) (g : Nat) (mp : Option Nat) (X : List Mem) (n : Int) : Prop where
  cell : W.heap[g]? = some (.cells #[ptr (hd X none), ptr (lst none X), .map mp, .int .i64 n] tc (0, 0))
  seg : Seg tm W none X none
  nd : (X.map (·.b)).Nodup
  ng : ∀ x ∈ X, x.b ≠ g
theorem Row.same {g : Nat} {mp : Option Nat} {X : List Mem} {n : Int} (h : Row tm tc W g mp X n) (e : ∀ k, k = g ∨ In X k → W'.heap[k]? = W.heap[k]?) : Row tm tc W' g mp X n :=
  ⟨(e g (.inl rfl)).trans h.cell, h.seg.same (fun x hx => e _ (.inr ⟨x, hx, rfl⟩)), h.nd, h.ng⟩
/-- The map from handles to members. -/
def MapIs (W : World) (mp : Option Nat) (X : List Mem) : Prop :=
  match mp with
  | none => X = []
  | some bm => ∃ ps, IMap W bm ps ∧ ps.length = X.length ∧ (∀ x ∈ X, IM.get ps x.h (.pointer none) = .pointer (some ⟨x.b, 0, none⟩)) ∧ (∀ k, (∀ x ∈ X, x.h ≠ k) → IM.has ps k = false) ∧ (ps.map Prod.fst).Nodup
/-- A chain. -/
structure ChW (tm tc : TypeId) (W : World) (g : Nat) (mp : Option Nat) (X : List Mem) (n : Int) : Prop where
  row : Row tm tc W g mp X n
  map : MapIs W mp X
  hs : (X.map (·.h)).Nodup
  hb : ∀ x ∈ X, 1 ≤ x.h ∧ x.h ≤ n
  gm : mp ≠ some g
  xm : ∀ x ∈ X, mp ≠ some x.b
/-- A chain's own blocks. -/
def Mine (g : Nat) (mp : Option Nat) (X : List Mem) (k : Nat) : Prop := k = g ∨ mp = some k ∨ In X k
theorem MapIs.same {mp : Option Nat} {X : List Mem} (h : MapIs W mp X) (e : ∀ k, mp = some k → W'.heap[k]? = W.heap[k]?) : MapIs W' mp X := by
  cases mp with
  | none => exact h
  | some bm =>
    obtain ⟨ps, ⟨es, c, h1, h2⟩, r⟩ := h
    exact ⟨ps, ⟨es, c, (e bm rfl).trans h1, h2⟩, r⟩
theorem ChW.same {g : Nat} {mp : Option Nat} {X : List Mem} {n : Int} (h : ChW tm tc W g mp X n) (e : ∀ k, Mine g mp X k → W'.heap[k]? = W.heap[k]?) : ChW tm tc W' g mp X n :=
  ⟨h.row.same (fun k hk => e k (by rcases hk with hk | hk; exact .inl hk; exact .inr (.inr hk))), h.map.same (fun k hk => e k (.inr (.inl hk))), h.hs, h.hb, h.gm, h.xm⟩
theorem Row.lt {g : Nat} {mp : Option Nat} {X : List Mem} {n : Int} (h : Row tm tc W g mp X n) {k : Nat} (hk : k = g ∨ In X k) : k < W.heap.size := by
  rcases hk with rfl | ⟨x, hx, rfl⟩
  · exact heap_lt h.cell
  · obtain ⟨p, q, hn⟩ := h.seg.mem x hx
    exact heap_lt hn
theorem MapIs.lt {mp : Option Nat} {X : List Mem} (h : MapIs W mp X) {k : Nat} (hk : mp = some k) : k < W.heap.size := by
  subst hk
  obtain ⟨ps, hm, _⟩ := h
  exact hm.lt
theorem ChW.lt {g : Nat} {mp : Option Nat} {X : List Mem} {n : Int} (h : ChW tm tc W g mp X n) {k : Nat} (hk : Mine g mp X k) : k < W.heap.size := by
  rcases hk with hk | hk | hk
  · exact h.row.lt (.inl hk)
  · exact h.map.lt hk
  · exact h.row.lt (.inr hk)
theorem ChW.keep {g : Nat} {mp : Option Nat} {X : List Mem} {n : Int} (h : ChW tm tc W g mp X n) {F : Nat → Prop} (hc : Chg F W W') (hF : ∀ k, Mine g mp X k → ¬ F k) : ChW tm tc W' g mp X n :=
  h.same (fun k hk => hc.block k (h.lt hk) (hF k hk))
theorem chg_heap0 {w w' : World} (h : Chg (fun _ => False) w w') {b : Nat} {o : Obj} (hb : w.heap[b]? = some o) : w'.heap[b]? = some o := (h.block b (heap_lt hb) id).trans hb
theorem read4 {w : World} {g : Nat} {c0 c1 c2 c3 : Value} {t : TypeId} (h : w.heap[g]? = some (.cells #[c0, c1, c2, c3] t (0, 0))) :
    w.cell? ⟨g, 0, none⟩ = some c0 ∧ w.cell? ⟨g, 1, none⟩ = some c1 ∧ w.cell? ⟨g, 2, none⟩ = some c2 ∧ w.cell? ⟨g, 3, none⟩ = some c3 := ⟨cell_of h 0 rfl, cell_of h 1 rfl, cell_of h 2 rfl, cell_of h 3 rfl⟩
/-- The member of a handle. -/
def findH (X : List Mem) (k : Int) : Option Mem := X.find? (fun x => x.h == k)
theorem findH_some {X : List Mem} {k : Int} {x : Mem} (h : findH X k = some x) : x ∈ X ∧ x.h = k := ⟨List.mem_of_find?_eq_some h, by simpa using List.find?_some h⟩
theorem findH_none {X : List Mem} {k : Int} (h : findH X k = none) : ∀ x ∈ X, x.h ≠ k := by simpa [findH] using h
theorem findH_split {X : List Mem} {k : Int} {x : Mem} (h : findH X k = some x) : ∃ A B, X = A ++ x :: B := List.append_of_mem (findH_some h).1
def ptrM (o : Option Mem) : Value := ptr (o.map (·.b))
theorem MapIs.perm {mp : Option Nat} {X Y : List Mem} (h : MapIs W mp X) (p : X.Perm Y) : MapIs W mp Y := by
  cases mp with
  | none =>
    have hX : X = [] := h
    subst hX
    exact p.symm.eq_nil
  | some bm =>
    obtain ⟨ps, hm, h1, h2, h3, h4⟩ := h
    exact ⟨ps, hm, h1.trans p.length_eq, fun x hx => h2 x (p.mem_iff.2 hx), fun k hk => h3 k (fun x hx => hk x (p.mem_iff.1 hx)), h4⟩
theorem im_has_iff : ∀ (ps : List (Int × Value)) (k : Int), IM.has ps k = true ↔ k ∈ ps.map Prod.fst
  | [], k => by simp [IM.has_nil]
  | p :: ps, k => by simp [IM.has_cons, im_has_iff ps k]
theorem im_keys_upd (k : Int) (v : Value) : ∀ (ps : List (Int × Value)), (IM.upd k v ps).map Prod.fst = if IM.has ps k then ps.map Prod.fst else ps.map Prod.fst ++ [k]
  | [] => by simp [IM.upd, IM.has_nil]
  | p :: ps => by
    simp only [IM.upd]
    by_cases hk : k = p.1
    · subst hk
      simp [IM.has_cons]
    · have hb : (k == p.1) = false := by simpa using hk
      simp only [hb, Bool.false_eq_true, if_false, IM.has_cons, List.map_cons, im_keys_upd k v ps, hk, decide_false, Bool.false_or]
      split <;> rfl
theorem im_nodup_upd {k : Int} {v : Value} {ps : List (Int × Value)} (h : (ps.map Prod.fst).Nodup) : ((IM.upd k v ps).map Prod.fst).Nodup := by
  rw [im_keys_upd]
  split
  · exact h
  · rename_i hh
    rw [List.nodup_append]
    refine ⟨h, by simp, ?_⟩
    intro a ha b hb e
    simp at hb
    subst hb e
    exact hh ((im_has_iff ps a).2 ha)
theorem im_del_sub (k : Int) : ∀ (ps : List (Int × Value)), ((IM.del k ps).map Prod.fst).Sublist (ps.map Prod.fst)
  | [] => by simp [IM.del]
  | p :: ps => by
    simp only [IM.del]
    by_cases hk : k = p.1
    · subst hk
      simp
    · have hb : (k == p.1) = false := by simpa using hk
      simp only [hb, Bool.false_eq_true, if_false, List.map_cons]
      exact (im_del_sub k ps).cons_cons _
theorem im_get_del (k : Int) (z : Value) : ∀ (ps : List (Int × Value)) (j : Int), (ps.map Prod.fst).Nodup → IM.get (IM.del k ps) j z = if j = k then z else IM.get ps j z
  | [], j, _ => by simp [IM.del, IM.get_nil]
  | p :: ps, j, h => by
    simp only [List.map_cons, List.nodup_cons] at h
    simp only [IM.del]
    by_cases hk : k = p.1
    · subst hk
      simp only [beq_self_eq_true, if_true, IM.get_cons]
      by_cases hj : j = p.1
      · subst hj
        simp only [if_true]
        refine IM.get_of_not_has ps _ z ?_
        cases hh : IM.has ps p.1
        · rfl
        · exact absurd ((im_has_iff ps p.1).1 hh) h.1
      · simp [hj]
    · have hb : (k == p.1) = false := by simpa using hk
      simp only [hb, Bool.false_eq_true, if_false, IM.get_cons, im_get_del k z ps j h.2]
      by_cases hj : j = p.1
      · simp only [hj, if_true]
        rw [if_neg (fun e => hk e.symm)]
      · simp [hj]
theorem im_has_del (k : Int) : ∀ (ps : List (Int × Value)) (j : Int), (ps.map Prod.fst).Nodup → IM.has (IM.del k ps) j = (!decide (j = k) && IM.has ps j)
  | [], j, _ => by simp [IM.del, IM.has_nil]
  | p :: ps, j, h => by
    simp only [List.map_cons, List.nodup_cons] at h
    simp only [IM.del]
    by_cases hk : k = p.1
    · subst hk
      simp only [beq_self_eq_true, if_true, IM.has_cons]
      by_cases hj : j = p.1
      · subst hj
        cases hh : IM.has ps p.1
        · simp
        · exact absurd ((im_has_iff ps p.1).1 hh) h.1
      · simp [hj]
    · have hb : (k == p.1) = false := by simpa using hk
      simp only [hb, Bool.false_eq_true, if_false, IM.has_cons, im_has_del k ps j h.2]
      by_cases hj : j = p.1
      · subst hj
        simp [Ne.symm hk]
      · simp [hj]
theorem im_length_del (k : Int) : ∀ (ps : List (Int × Value)), IM.has ps k = true → (IM.del k ps).length + 1 = ps.length
  | [], h => by simp [IM.has_nil] at h
  | p :: ps, h => by
    simp only [IM.del]
    by_cases hk : k = p.1
    · subst hk
      simp
    · have hb : (k == p.1) = false := by simpa using hk
      rw [IM.has_cons] at h
      simp only [hk, decide_false, Bool.false_or] at h
      simp only [hb, Bool.false_eq_true, if_false, List.length_cons, im_length_del k ps h]
/-- A member taken out of the map. -/
theorem MapIs.cut {W' : World} {bm : Nat} {A B : List Mem} {m : Mem} {ps : List (Int × Value)} (h1 : ps.length = (A ++ m :: B).length) (h2 : ∀ x ∈ A ++ m :: B, IM.get ps x.h (.pointer none) = .pointer (some ⟨x.b, 0, none⟩)) (h3 : ∀ k, (∀ x ∈ A ++ m :: B, x.h ≠ k) → IM.has ps k = false) (h4 : (ps.map Prod.fst).Nodup)
    (hn : ((A ++ m :: B).map (·.h)).Nodup) (h : IMap W' bm (IM.del m.h ps)) : MapIs W' (some bm) (A ++ B) := by
  have hne : ∀ x ∈ A ++ B, x.h ≠ m.h := by
    simp only [List.map_append, List.map_cons, List.nodup_append, List.nodup_cons, List.mem_map, List.mem_cons] at hn
    obtain ⟨_, ⟨n1, _⟩, n2⟩ := hn
    intro x hx
    rcases List.mem_append.1 hx with hx | hx
    · exact n2 _ ⟨x, hx, rfl⟩ _ (.inl rfl)
    · exact fun e => n1 ⟨x, hx, e⟩
  have hsub : ∀ x ∈ A ++ B, x ∈ A ++ m :: B := fun x hx => by
    rcases List.mem_append.1 hx with hx | hx <;> simp [hx]
  have hhas : IM.has ps m.h = true := by
    cases hh : IM.has ps m.h
    · have := h2 m (by simp)
      rw [IM.get_of_not_has ps _ _ hh] at this
      cases this
    · rfl
  refine ⟨_, h, ?_, ?_, ?_, h4.sublist (im_del_sub _ _)⟩
  · have := im_length_del m.h ps hhas
    simp only [List.length_append, List.length_cons] at *
    omega
  · intro x hx
    rw [im_get_del _ _ _ _ h4, if_neg (hne x hx)]
    exact h2 x (hsub x hx)
  · intro k hk
    rw [im_has_del _ _ _ h4]
    by_cases hkm : k = m.h
    · simp [hkm]
    · rw [h3 k ?_]
      · simp
      · intro x hx
        rcases List.mem_append.1 hx with hx | hx
        · exact hk x (by simp [hx])
        · rcases List.mem_cons.1 hx with rfl | hx
          · exact fun e => hkm e.symm
          · exact hk x (by simp [hx])
/-- What the map says. -/
theorem MapIs.get {bm : Nat} {X : List Mem} (h : MapIs W (some bm) X) : ∃ ps, IMap W bm ps ∧ ps.length = X.length ∧ ∀ k, IM.get ps k (.pointer none) = ptrM (findH X k) := by
  obtain ⟨ps, hm, hl, h1, h2, h3⟩ := h
  refine ⟨ps, hm, hl, fun k => ?_⟩
  cases hf : findH X k with
  | none => exact IM.get_of_not_has ps k _ (h2 k (findH_none hf))
  | some x =>
    obtain ⟨hx, rfl⟩ := findH_some hf
    exact h1 x hx
end Go.Proofs.Ythoagpagnldmeaa
