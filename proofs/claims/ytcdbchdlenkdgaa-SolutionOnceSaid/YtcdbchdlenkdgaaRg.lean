/- As Rd, but an operation is looked at only where it is ready: so operations that make or write memory may follow one another in a chain. -/
import Derived.Test.YtcdbchdlenkdgaaRd
import Derived.Still
import Derived.Orders
set_option linter.unusedVariables false
set_option linter.unusedSimpArgs false
namespace Go.Ps.G
open Go.RowKit
section
variable {P : Program} {ops : Array Oper} {md : Region.Mode}

/-- In state a operation number i yields v in every world that is met, and leaves a world that may be met behind it. -/
def Gives (P : Program) (ops : Array Oper) (md : Region.Mode) (S : Array Bool → World → Prop) (i : Nat) (o : Oper) (v : Value) (a : Act) : Prop :=
  (Region.wanted o (yielded ops a.tmps) = true ∧ ∀ L w, i ∈ Region.ready md ops L → S L w → HasV P (S (L.setIfInBounds i true)) v ((execOp a.eval o).run P w)) ∨
  (Region.wanted o (yielded ops a.tmps) = false ∧ v = undef ∧ ∀ L w, i ∈ Region.ready md ops L → S L w → S (L.setIfInBounds i true) w)
theorem Gives.of_same {S : Array Bool → World → Prop} {i : Nat} {o : Oper} {v : Value} {a a' : Act} (hy : Gives P ops md S i o v a) (he : execOp a'.eval o = execOp a.eval o)
    (hw : Region.wanted o (yielded ops a'.tmps) = Region.wanted o (yielded ops a.tmps)) : Gives P ops md S i o v a' := by
  unfold Gives at *
  rw [he, hw]
  exact hy
theorem Gives.wpOp {S : Array Bool → World → Prop} {Q : Exit → Act → World → Prop} {i : Nat} {o : Oper} {v : Value} {a : Act} (hi : ops[i]? = some o) (hy : Gives P ops md S i o v a)
    {K : Act → World → Prop} {L : Array Bool} {w : World} (hL : i ∈ Region.ready md ops L) (hS : S L w) (h : ∀ w', S (L.setIfInBounds i true) w' → K (a.put o.dst v) w') : Go.wpOp P ops Q i K a w := by
  unfold Go.wpOp
  simp only [hi]
  rcases hy with ⟨hw, hv⟩ | ⟨hw, rfl, hv⟩
  · simp only [hw, if_true]
    refine .inl ?_
    have h2 := hv L w hL hS
    unfold Oper.wp
    generalize (execOp a.eval o).run P w = r at h2 ⊢
    cases r with
    | ok n w' =>
      cases n <;> simp only [HasV] at h2 <;> simp only [Oper.upon]
      case value u => obtain ⟨rfl, h3⟩ := h2; exact h _ h3
      case skip => obtain ⟨rfl, h3⟩ := h2; exact h _ h3
      case enter f args => exact h2.mono fun e w'' ⟨he, h3⟩ => by subst he; exact h _ h3
    | halt x w' => simp only [HasV] at h2
  · simp only [hw, Bool.false_eq_true, if_false]
    exact h _ (hv L w hL hS)

/-- A way through the operations that are left. -/
inductive Path (P : Program) (ops : Array Oper) (md : Region.Mode) (S : Array Bool → World → Prop) (Q : Exit → Act → World → Prop) : Nat → Array Bool → Act → Prop
  | done {L : Array Bool} {a : Act} (hr : Region.ready md ops L = []) (hQ : ∀ w, S L w → Q .normal a w) : Path P ops md S Q 0 L a
  | step {n : Nat} {L : Array Bool} {a : Act} {i : Nat} {o : Oper} {v : Value} (hi : ops[i]? = some o)
      (hf : ∀ j oj, ops[j]? = some oj → j ≠ i → L.getD j true = false → (∀ e ∈ oj.after, Region.binds md e = true → e.on ≠ i) → o.apart ops oj = true)
      (hr : i ∈ Region.ready md ops L) (hg : Gives P ops md S i o v a) (h : Path P ops md S Q n (L.setIfInBounds i true) (a.put o.dst v)) : Path P ops md S Q (n + 1) L a

theorem Path.swap {S : Array Bool → World → Prop} {Q : Exit → Act → World → Prop} (hsel : ∀ (j : Nat) (o : Oper) cs b, ops[j]? = some o → o.op ≠ .select cs b) :
    ∀ {n : Nat} {L : Array Bool} {a : Act}, Path P ops md S Q n L a → ∀ j, j ∈ Region.ready md ops L → ∃ m oj v, n = m + 1 ∧ ops[j]? = some oj ∧ Gives P ops md S j oj v a ∧ Path P ops md S Q m (L.setIfInBounds j true) (a.put oj.dst v) := by
  intro n L a hp
  induction hp with
  | done hr hQ => intro j hj; rw [hr] at hj; cases hj
  | @step n L a i o v hi hf hr hg h ih =>
    intro j hj
    by_cases hji : j = i
    · subst hji
      exact ⟨n, o, v, rfl, hi, hg, h⟩
    · obtain ⟨m, oj, u, hn, hoj, hgj, hpj⟩ := ih j (ready_mono hj hji)
      obtain ⟨hjun, oj', hoj', hall⟩ := mem_ready.1 hj
      obtain rfl : oj' = oj := Option.some.inj (hoj'.symm.trans hoj)
      have hnot : ∀ e ∈ oj'.after, Region.binds md e = true → e.on ≠ i := fun e he hb heq => by
        have h1 := hall e he hb
        have h0 := (mem_ready.1 hr).1
        rw [heq] at h1
        rcases Nat.lt_or_ge i L.size with h' | h'
        · simp [h'] at h0 h1; rw [h0] at h1; cases h1
        · simp [Array.getElem?_eq_none h'] at h1
      obtain ⟨h1, h2, h3⟩ := Oper.apart_spec (hf j oj' hoj hji hjun hnot)
      refine ⟨m + 1, oj', u, by rw [hn], hoj, hgj.of_same (execOp_put oj' (fun cs b => hsel j oj' cs b hoj) a o.dst v h1).symm (wanted_put oj' a o.dst v h1).symm, ?_⟩
      refine Path.step (i := i) hi ?_ (ready_mono hr (Ne.symm hji)) (hg.of_same (execOp_put o (fun cs b => hsel i o cs b hi) a oj'.dst u h3) (wanted_put o a oj'.dst u h3)) ?_
      · intro k ok hk hki hun hno
        refine hf k ok hk hki ?_ hno
        by_cases hjk : j = k
        · subst hjk; exact hjun
        · rw [getD_set_ne true hjk] at hun; exact hun
      · rw [Array.setIfInBounds_comm _ _ hji, ← Act.put_comm a v u h2]
        exact hpj
theorem Path.any {S : Array Bool → World → Prop} {Q : Exit → Act → World → Prop} (hsel : ∀ (j : Nat) (o : Oper) cs b, ops[j]? = some o → o.op ≠ .select cs b) :
    ∀ (n : Nat) (L : Array Bool) (a : Act) (w : World), Path P ops md S Q n L a → S L w → wpAny P md ops Q n L a w
  | 0, L, a, w, h, hS => by
    cases h with
    | done hr hQ => exact ⟨hr, hQ w hS⟩
  | n + 1, L, a, w, h, hS => by
    refine ⟨fun h0 => ?_, fun j hj => ?_⟩
    · cases h with
      | step hi hf hr hg h => rw [h0] at hr; cases hr
    · obtain ⟨m, oj, v, hn, hoj, hg, hp⟩ := h.swap hsel j hj
      obtain rfl : n = m := by omega
      exact hg.wpOp hoj hj hS fun w' hS' => Path.any hsel n _ _ w' hp hS'

/-- The walk, in the order of the text: k operations lie behind. -/
def wpDet (P : Program) (ops : Array Oper) (md : Region.Mode) (S : Array Bool → World → Prop) (Q : Act → Prop) : Nat → List Oper → Act → Prop
  | _, [], a => Q a
  | k, o :: rest, a => ∃ v, Gives P ops md S k o v a ∧ wpDet P ops md S Q (k + 1) rest (a.put o.dst v)
theorem wpDet_path {S : Array Bool → World → Prop} {Q : Exit → Act → World → Prop} : ∀ (l : List Oper) (k : Nat) (L : Array Bool) (a : Act), (∀ j, l[j]? = ops[k + j]?) →
    Region.lexFrom md ops l.length k L = true → wpDet P ops md S (fun a => ∀ w, S (List.range' k l.length |>.foldl (fun L i => L.setIfInBounds i true) L) w → Q .normal a w) k l a → Path P ops md S Q l.length L a
  | [], k, L, a, _, hB, h => Path.done (by simpa [Region.lexFrom] using hB) h
  | o :: l, k, L, a, hl, hB, h => by
    have h0 : ops[k]? = some o := by simpa using (hl 0).symm
    simp only [List.length_cons, Region.lexFrom, Bool.and_eq_true] at hB
    obtain ⟨⟨hr, hf⟩, hB'⟩ := hB
    obtain ⟨v, hg, hK⟩ := h
    exact Path.step h0 (Region.free_spec h0 hf) (by simpa using hr) hg (wpDet_path l (k + 1) _ _ (fun j => by have := hl (j + 1); simpa [Nat.add_assoc, Nat.add_comm 1 j] using this) hB' hK)
/-- The law. -/
theorem wp_region_det (S : Array Bool → World → Prop) (R : World → Prop) {id : Nat} {Q : Exit → Act → World → Prop} {a : Act} {w : World} {l : List Oper} (hm : P.follows .mixedOrders = true) (hB : Region.lexB .any l.toArray = true)
    (hS : S (Array.replicate l.length false) w.drew) (hR : ∀ w', S (List.range' 0 l.length |>.foldl (fun L i => L.setIfInBounds i true) (Array.replicate l.length false)) w' → R w')
    (h : wpDet P l.toArray .any S (fun a => ∀ w', R w' → Q .normal a w') 0 l a) : (Code.region id l.toArray true).wp P Q a w := by
  simp only [Region.lexB, Bool.and_eq_true] at hB
  refine wp_region_any hm ?_
  have hmono : ∀ {Q1 Q2 : Act → Prop} (hq : ∀ a, Q1 a → Q2 a) (l' : List Oper) (k : Nat) (a : Act), wpDet P l.toArray .any S Q1 k l' a → wpDet P l.toArray .any S Q2 k l' a := by
    intro Q1 Q2 hq l'
    induction l' with
    | nil => intro k a h; exact hq a h
    | cons o l' ih => intro k a ⟨v, hg, h⟩; exact ⟨v, hg, ih _ _ h⟩
  have hp := wpDet_path (md := .any) (Q := Q) l 0 (Array.replicate l.length false) a (by simp) (by simpa using hB.2) (hmono (fun a hq w' hS' => hq w' (hR w' hS')) l 0 a h)
  have := Path.any (Region.noSelect_spec hB.1) l.length _ _ _ hp hS
  exact this

variable {S : World → Prop} {Q : Act → Prop} {k : Nat} {o : Oper} {rest : List Oper} {a : Act}
/-- One operation that is carried out; S does not hang on what lies behind. -/
theorem wpDet_step {v : Value} (hw : Region.wanted o (yielded ops a.tmps) = true) (h : ∀ w, S w → HasV P S v ((execOp a.eval o).run P w)) (hk : wpDet P ops md (fun _ => S) Q (k + 1) rest (a.put o.dst v)) : wpDet P ops md (fun _ => S) Q k (o :: rest) a :=
  ⟨v, .inl ⟨hw, fun _ w _ hS => h w hS⟩, hk⟩
theorem wpDet_skip (hw : Region.wanted o (yielded ops a.tmps) = false) (hk : wpDet P ops md (fun _ => S) Q (k + 1) rest (a.put o.dst undef)) : wpDet P ops md (fun _ => S) Q k (o :: rest) a :=
  ⟨undef, .inr ⟨hw, rfl, fun _ _ _ hS => hS⟩, hk⟩
theorem wpDet_nil (h : Q a) : wpDet P ops md (fun _ => S) Q k [] a := h
/-- The law where S does not hang on what lies behind. -/
theorem wp_region_same (S : World → Prop) {id : Nat} {Q : Exit → Act → World → Prop} {a : Act} {w : World} {l : List Oper} (hm : P.follows .mixedOrders = true) (hB : Region.lexB .any l.toArray = true)
    (hS : S w.drew) (h : wpDet P l.toArray .any (fun _ => S) (fun a => ∀ w', S w' → Q .normal a w') 0 l a) : (Code.region id l.toArray true).wp P Q a w :=
  wp_region_det (fun _ => S) S hm hB hS (fun _ h => h) h
/-! ### operations that make or write memory, one after the other -/
/-- ks: those operations, in their order; ww j: the world behind j of them. -/
def Stage (ks : List Nat) (ww : Nat → World) (L : Array Bool) (w : World) : Prop := ∃ j, j ≤ ks.length ∧ (∀ i, i < ks.length → (L.getD (ks.getD i 0) false = true ↔ i < j)) ∧ w = ww j
theorem mem_step {ks : List Nat} {ww : Nat → World} {k : Nat} {o : Oper} {rest : List Oper} {a : Act} {Q : Act → Prop} {v : Value} (hne : ks.contains k = false) (hw : Region.wanted o (yielded ops a.tmps) = true) (h : ∀ j, j ≤ ks.length → HasV P (fun w' => w' = ww j) v ((execOp a.eval o).run P (ww j)))
    (hk : wpDet P ops md (Stage ks ww) Q (k + 1) rest (a.put o.dst v)) : wpDet P ops md (Stage ks ww) Q k (o :: rest) a :=
  ⟨v, .inl ⟨hw, fun L w hL hS => by
    obtain ⟨j, hj, hi, rfl⟩ := hS
    refine HasV.mono (h j hj) fun w' hw' => ⟨j, hj, fun i hlt => ?_, hw'⟩
    rw [getD_set_ne false (fun e => by
      have : k ∈ ks := by rw [e, List.getD_eq_getElem?_getD, List.getElem?_eq_getElem hlt]; exact List.getElem_mem hlt
      simp [this] at hne)]
    exact hi i hlt⟩, hk⟩
theorem mem_do {ks : List Nat} {ww : Nat → World} {k : Nat} {o : Oper} {rest : List Oper} {a : Act} {Q : Act → Prop} {v : Value} (j : Nat) (hjk : ks[j]? = some k) (hnd : (List.range ks.length).all (fun i => i == j || !(ks.getD i 0 == k)) = true) (ho : ops[k]? = some o) (hdep : j = 0 ∨ o.after.any (fun e => Region.binds md e && e.on == ks.getD (j - 1) 0) = true)
    (hw : Region.wanted o (yielded ops a.tmps) = true) (h : HasV P (fun w' => w' = ww (j + 1)) v ((execOp a.eval o).run P (ww j)))
    (hk : wpDet P ops md (Stage ks ww) Q (k + 1) rest (a.put o.dst v)) : wpDet P ops md (Stage ks ww) Q k (o :: rest) a :=
  ⟨v, .inl ⟨hw, fun L w hL hS => by
    obtain ⟨j', hj', hi, rfl⟩ := hS
    obtain ⟨hund, oj, hoj, hall⟩ := mem_ready.1 hL
    obtain rfl : oj = o := Option.some.inj (hoj.symm.trans ho)
    have hjl : j < ks.length := (List.getElem?_eq_some_iff.1 hjk).1
    have hkj : ks.getD j 0 = k := by rw [List.getD_eq_getElem?_getD, hjk]; rfl
    have hsz : k < L.size := by
      rcases Nat.lt_or_ge k L.size with h' | h'
      · exact h'
      · rw [Array.getD_eq_getD_getElem?, Array.getElem?_eq_none h'] at hund; cases hund
    have hLk : L.getD k false = false := by
      rw [Array.getD_eq_getD_getElem?, Array.getElem?_eq_getElem hsz] at hund ⊢
      exact hund
    have hle : ¬ j < j' := fun hlt' => by
      have := (hi j hjl).2 hlt'
      rw [hkj, hLk] at this
      cases this
    have hge : j ≤ j' := by
      rcases hdep with h0 | h0
      · omega
      · rcases Nat.eq_zero_or_pos j with hz | hz
        · omega
        · rw [Array.any_eq_true'] at h0
          obtain ⟨e, hem, he⟩ := h0
          simp only [Bool.and_eq_true, beq_iff_eq] at he
          have := hall e hem he.1
          rw [he.2] at this
          have := (hi (j - 1) (by omega)).1 this
          omega
    obtain rfl : j' = j := by omega
    refine HasV.mono h fun w' hw' => ⟨j' + 1, by omega, fun i hlt => ?_, hw'⟩
    by_cases hij : i = j'
    · subst hij
      rw [hkj, Array.getD_eq_getD_getElem?, Array.getElem?_setIfInBounds_self_of_lt hsz]
      simp
    · have hne : ks.getD i 0 ≠ k := fun e => by
        have := List.all_eq_true.1 hnd i (List.mem_range.2 hlt)
        simp only [Bool.or_eq_true, beq_iff_eq, Bool.not_eq_true', beq_eq_false_iff_ne] at this
        rcases this with h1 | h1
        · exact hij h1
        · exact h1 e
      rw [getD_set_ne false (fun e => hne e.symm), hi i hlt]
      omega⟩, hk⟩
/-- The law. -/
theorem wp_region_mem (ks : List Nat) (ww : Nat → World) {id : Nat} {Q : Exit → Act → World → Prop} {a : Act} {w : World} {l : List Oper} (hm : P.follows .mixedOrders = true) (hB : Region.lexB .any l.toArray = true)
    (hks : ks.all (fun k => (List.range' 0 l.length |>.foldl (fun L i => L.setIfInBounds i true) (Array.replicate l.length false)).getD k false) = true) (h0 : ww 0 = w.drew) (h : wpDet P l.toArray .any (Stage ks ww) (fun a => Q .normal a (ww ks.length)) 0 l a) : (Code.region id l.toArray true).wp P Q a w := by
  have hmono : ∀ {Q1 Q2 : Act → Prop} (hq : ∀ a, Q1 a → Q2 a) (l' : List Oper) (k : Nat) (a : Act), wpDet P l.toArray .any (Stage ks ww) Q1 k l' a → wpDet P l.toArray .any (Stage ks ww) Q2 k l' a := by
    intro Q1 Q2 hq l'
    induction l' with
    | nil => intro k a h; exact hq a h
    | cons o l' ih => intro k a ⟨v, hg, h⟩; exact ⟨v, hg, ih _ _ h⟩
  refine wp_region_det (Stage ks ww) (fun w' => w' = ww ks.length) hm hB ?_ ?_ (hmono (fun a hq w' hw' => by subst hw'; exact hq) l 0 a h)
  · refine ⟨0, Nat.zero_le _, fun i hi => ?_, h0.symm⟩
    have : (Array.replicate l.length false).getD (ks.getD i 0) false = false := by
      rcases Nat.lt_or_ge (ks.getD i 0) l.length with h' | h'
      · rw [Array.getD_eq_getD_getElem?, Array.getElem?_replicate, if_pos h']; rfl
      · rw [Array.getD_eq_getD_getElem?, Array.getElem?_replicate, if_neg (by omega)]; rfl
    rw [this]
    simp
  · rintro w' ⟨j, hj, hi, rfl⟩
    rcases Nat.lt_or_ge j ks.length with h' | h'
    · have h1 := List.all_eq_true.1 hks (ks.getD j 0) (by rw [List.getD_eq_getElem?_getD, List.getElem?_eq_getElem h']; exact List.getElem_mem h')
      exact absurd ((hi j h').1 h1) (by omega)
    · obtain rfl : j = ks.length := by omega
      rfl
end
end Go.Ps.G
