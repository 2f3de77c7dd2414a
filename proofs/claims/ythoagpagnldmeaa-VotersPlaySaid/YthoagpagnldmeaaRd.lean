/- A region that draws its order, in which each operation yields one and the same value in every world that is met, whatever the order: one walk, in the order of the text. -/
import Derived.Test.YthoagpagnldmeaaK2
import Derived.Still
import Derived.Orders
set_option linter.unusedVariables false
set_option linter.unusedSimpArgs false
namespace Go.Ps
open Go.RowKit
section
variable {P : Program} {ops : Array Oper} {md : Region.Mode}

/-- The value v, and a world that meets S. -/
def HasV (P : Program) (S : World → Prop) (v : Value) : Result Next → Prop
  | .ok (.value u) w' => u = v ∧ S w'
  | .ok .skip w' => v = undef ∧ S w'
  | .ok (.enter f args) w' => Calls P f args w' fun e w'' => e = .returned v ∧ S w''
  | _ => False
theorem HasV.val {S : World → Prop} {v : Value} {w : World} (h : S w) : HasV P S v (.ok (.value v) w) := ⟨rfl, h⟩
theorem HasV.skip {S : World → Prop} {w : World} (h : S w) : HasV P S undef (.ok .skip w) := ⟨rfl, h⟩
theorem HasV.call {S R : World → Prop} {v : Value} {f : FuncId} {args : Array Value} {w : World} (h : Calls P f args w fun e w' => e = .returned v ∧ R w') (hp : ∀ w', R w' → S w') : HasV P S v (.ok (.enter f args) w) :=
  h.mono fun _ _ ⟨he, hr⟩ => ⟨he, hp _ hr⟩
/-- In state a operation number i yields v in every world that is met, and leaves a world that may be met behind it. -/
def Gives (P : Program) (ops : Array Oper) (S : Array Bool → World → Prop) (i : Nat) (o : Oper) (v : Value) (a : Act) : Prop :=
  (Region.wanted o (yielded ops a.tmps) = true ∧ ∀ L w, L.getD i true = false → S L w → HasV P (S (L.setIfInBounds i true)) v ((execOp a.eval o).run P w)) ∨
  (Region.wanted o (yielded ops a.tmps) = false ∧ v = undef ∧ ∀ L w, L.getD i true = false → S L w → S (L.setIfInBounds i true) w)
theorem Gives.of_same {S : Array Bool → World → Prop} {i : Nat} {o : Oper} {v : Value} {a a' : Act} (hy : Gives P ops S i o v a) (he : execOp a'.eval o = execOp a.eval o)
    (hw : Region.wanted o (yielded ops a'.tmps) = Region.wanted o (yielded ops a.tmps)) : Gives P ops S i o v a' := by
  unfold Gives at *
  rw [he, hw]
  exact hy
theorem Gives.wpOp {S : Array Bool → World → Prop} {Q : Exit → Act → World → Prop} {i : Nat} {o : Oper} {v : Value} {a : Act} (hi : ops[i]? = some o) (hy : Gives P ops S i o v a)
    {K : Act → World → Prop} {L : Array Bool} {w : World} (hL : L.getD i true = false) (hS : S L w) (h : ∀ w', S (L.setIfInBounds i true) w' → K (a.put o.dst v) w') : Go.wpOp P ops Q i K a w := by
  unfold Go.wpOp
  simp only [hi]
  rcases hy with ⟨hw, hv⟩ | ⟨hw, rfl, hv⟩
  · simp only [hw, if_true]
    refine .inl ?_
    have h2 := hv L w hL hS
    unfold Oper.wp
    generalize (execOp a.eval o).run P w = r at h2 ⊢
    cases r with
    | ok n w' =>
      cases n <;> simp only [HasV] at h2 <;> simp only [Oper.upon]
      case value u => obtain ⟨rfl, h3⟩ := h2; exact h _ h3
      case skip => obtain ⟨rfl, h3⟩ := h2; exact h _ h3
      case enter f args => exact h2.mono fun e w'' ⟨he, h3⟩ => by subst he; exact h _ h3
    | halt x w' => simp only [HasV] at h2
  · simp only [hw, Bool.false_eq_true, if_false]
    exact h _ (hv L w hL hS)

/-- A way through the operations that are left. -/
inductive Path (P : Program) (ops : Array Oper) (md : Region.Mode) (S : Array Bool → World → Prop) (Q : Exit → Act → World → Prop) : Nat → Array Bool → Act → Prop
  | done {L : Array Bool} {a : Act} (hr : Region.ready md ops L = []) (hQ : ∀ w, S L w → Q .normal a w) : Path P ops md S Q 0 L a
  | step {n : Nat} {L : Array Bool} {a : Act} {i : Nat} {o : Oper} {v : Value} (hi : ops[i]? = some o)
      (hf : ∀ j oj, ops[j]? = some oj → j ≠ i → L.getD j true = false → (∀ e ∈ oj.after, Region.binds md e = true → e.on ≠ i) → o.apart ops oj = true)
      (hr : i ∈ Region.ready md ops L) (hg : Gives P ops S i o v a) (h : Path P ops md S Q n (L.setIfInBounds i true) (a.put o.dst v)) : Path P ops md S Q (n + 1) L a

theorem Path.swap {S : Array Bool → World → Prop} {Q : Exit → Act → World → Prop} (hsel : ∀ (j : Nat) (o : Oper) cs b, ops[j]? = some o → o.op ≠ .select cs b) :
    ∀ {n : Nat} {L : Array Bool} {a : Act}, Path P ops md S Q n L a → ∀ j, j ∈ Region.ready md ops L → ∃ m oj v, n = m + 1 ∧ ops[j]? = some oj ∧ Gives P ops S j oj v a ∧ Path P ops md S Q m (L.setIfInBounds j true) (a.put oj.dst v) := by
  intro n L a hp
  induction hp with
  | done hr hQ => intro j hj; rw [hr] at hj; cases hj
  | @step n L a i o v hi hf hr hg h ih =>
    intro j hj
    by_cases hji : j = i
    · subst hji
      exact ⟨n, o, v, rfl, hi, hg, h⟩
    · obtain ⟨m, oj, u, hn, hoj, hgj, hpj⟩ := ih j (ready_mono hj hji)
      obtain ⟨hjun, oj', hoj', hall⟩ := mem_ready.1 hj
      obtain rfl : oj' = oj := Option.some.inj (hoj'.symm.trans hoj)
      have hnot : ∀ e ∈ oj'.after, Region.binds md e = true → e.on ≠ i := fun e he hb heq => by
        have h1 := hall e he hb
        have h0 := (mem_ready.1 hr).1
        rw [heq] at h1
        rcases Nat.lt_or_ge i L.size with h' | h'
        · simp [h'] at h0 h1; rw [h0] at h1; cases h1
        · simp [Array.getElem?_eq_none h'] at h1
      obtain ⟨h1, h2, h3⟩ := Oper.apart_spec (hf j oj' hoj hji hjun hnot)
      refine ⟨m + 1, oj', u, by rw [hn], hoj, hgj.of_same (execOp_put oj' (fun cs b => hsel j oj' cs b hoj) a o.dst v h1).symm (wanted_put oj' a o.dst v h1).symm, ?_⟩
      refine Path.step (i := i) hi ?_ (ready_mono hr (Ne.symm hji)) (hg.of_same (execOp_put o (fun cs b => hsel i o cs b hi) a oj'.dst u h3) (wanted_put o a oj'.dst u h3)) ?_
      · intro k ok hk hki hun hno
        refine hf k ok hk hki ?_ hno
        by_cases hjk : j = k
        · subst hjk; exact hjun
        · rw [getD_set_ne true hjk] at hun; exact hun
      · rw [Array.setIfInBounds_comm _ _ hji, ← Act.put_comm a v u h2]
        exact hpj
theorem Path.any {S : Array Bool → World → Prop} {Q : Exit → Act → World → Prop} (hsel : ∀ (j : Nat) (o : Oper) cs b, ops[j]? = some o → o.op ≠ .select cs b) :
    ∀ (n : Nat) (L : Array Bool) (a : Act) (w : World), Path P ops md S Q n L a → S L w → wpAny P md ops Q n L a w
  | 0, L, a, w, h, hS => by
    cases h with
    | done hr hQ => exact ⟨hr, hQ w hS⟩
  | n + 1, L, a, w, h, hS => by
    refine ⟨fun h0 => ?_, fun j hj => ?_⟩
    · cases h with
      | step hi hf hr hg h => rw [h0] at hr; cases hr
    · obtain ⟨m, oj, v, hn, hoj, hg, hp⟩ := h.swap hsel j hj
      obtain rfl : n = m := by omega
      exact hg.wpOp hoj (mem_ready.1 hj).1 hS fun w' hS' => Path.any hsel n _ _ w' hp hS'

/-- The walk, in the order of the text: k operations lie behind. -/
def wpDet (P : Program) (ops : Array Oper) (S : Array Bool → World → Prop) (Q : Act → Prop) : Nat → List Oper → Act → Prop
  | _, [], a => Q a
  | k, o :: rest, a => ∃ v, Gives P ops S k o v a ∧ wpDet P ops S Q (k + 1) rest (a.put o.dst v)
theorem wpDet_path {S : Array Bool → World → Prop} {Q : Exit → Act → World → Prop} : ∀ (l : List Oper) (k : Nat) (L : Array Bool) (a : Act), (∀ j, l[j]? = ops[k + j]?) →
    Region.lexFrom md ops l.length k L = true → wpDet P ops S (fun a => ∀ w, S (List.range' k l.length |>.foldl (fun L i => L.setIfInBounds i true) L) w → Q .normal a w) k l a → Path P ops md S Q l.length L a
  | [], k, L, a, _, hB, h => Path.done (by simpa [Region.lexFrom] using hB) h
  | o :: l, k, L, a, hl, hB, h => by
    have h0 : ops[k]? = some o := by simpa using (hl 0).symm
    simp only [List.length_cons, Region.lexFrom, Bool.and_eq_true] at hB
    obtain ⟨⟨hr, hf⟩, hB'⟩ := hB
    obtain ⟨v, hg, hK⟩ := h
    exact Path.step h0 (Region.free_spec h0 hf) (by simpa using hr) hg (wpDet_path l (k + 1) _ _ (fun j => by have := hl (j + 1); simpa [Nat.add_assoc, Nat.add_comm 1 j] using this) hB' hK)
/-- The law. -/
theorem wp_region_det (S : Array Bool → World → Prop) (R : World → Prop) {id : Nat} {Q : Exit → Act → World → Prop} {a : Act} {w : World} {l : List Oper} (hm : P.follows .mixedOrders = true) (hB : Region.lexB .any l.toArray = true)
    (hS : S (Array.replicate l.length false) w.drew) (hR : ∀ w', S (List.range' 0 l.length |>.foldl (fun L i => L.setIfInBounds i true) (Array.replicate l.length false)) w' → R w')
    (h : wpDet P l.toArray S (fun a => ∀ w', R w' → Q .normal a w') 0 l a) : (Code.region id l.toArray true).wp P Q a w := by
  simp only [Region.lexB, Bool.and_eq_true] at hB
  refine wp_region_any hm ?_
  have hmono : ∀ {Q1 Q2 : Act → Prop} (hq : ∀ a, Q1 a → Q2 a) (l' : List Oper) (k : Nat) (a : Act), wpDet P l.toArray S Q1 k l' a → wpDet P l.toArray S Q2 k l' a := by
    intro Q1 Q2 hq l'
    induction l' with
    | nil => intro k a h; exact hq a h
    | cons o l' ih => intro k a ⟨v, hg, h⟩; exact ⟨v, hg, ih _ _ h⟩
  have hp := wpDet_path (md := .any) (Q := Q) l 0 (Array.replicate l.length false) a (by simp) (by simpa using hB.2) (hmono (fun a hq w' hS' => hq w' (hR w' hS')) l 0 a h)
  have := Path.any (Region.noSelect_spec hB.1) l.length _ _ _ hp hS
  exact this

variable {S : World → Prop} {Q : Act → Prop} {k : Nat} {o : Oper} {rest : List Oper} {a : Act}
/-- One operation that is carried out; S does not hang on what lies behind. -/
theorem wpDet_step {v : Value} (hw : Region.wanted o (yielded ops a.tmps) = true) (h : ∀ w, S w → HasV P S v ((execOp a.eval o).run P w)) (hk : wpDet P ops (fun _ => S) Q (k + 1) rest (a.put o.dst v)) : wpDet P ops (fun _ => S) Q k (o :: rest) a :=
  ⟨v, .inl ⟨hw, fun _ w _ hS => h w hS⟩, hk⟩
theorem wpDet_skip (hw : Region.wanted o (yielded ops a.tmps) = false) (hk : wpDet P ops (fun _ => S) Q (k + 1) rest (a.put o.dst undef)) : wpDet P ops (fun _ => S) Q k (o :: rest) a :=
  ⟨undef, .inr ⟨hw, rfl, fun _ _ _ hS => hS⟩, hk⟩
theorem wpDet_nil (h : Q a) : wpDet P ops (fun _ => S) Q k [] a := h
/-- The law where S does not hang on what lies behind. -/
theorem wp_region_same (S : World → Prop) {id : Nat} {Q : Exit → Act → World → Prop} {a : Act} {w : World} {l : List Oper} (hm : P.follows .mixedOrders = true) (hB : Region.lexB .any l.toArray = true)
    (hS : S w.drew) (h : wpDet P l.toArray (fun _ => S) (fun a => ∀ w', S w' → Q .normal a w') 0 l a) : (Code.region id l.toArray true).wp P Q a w :=
  wp_region_det (fun _ => S) S hm hB hS (fun _ h => h) h
/-! ### one operation makes memory, all others only read -/
theorem HasV.mono {S R : World → Prop} {v : Value} {r : Result Next} (h : HasV P S v r) (hm : ∀ w, S w → R w) : HasV P R v r := by
  cases r with
  | ok n w' =>
    cases n <;> simp only [HasV] at h ⊢
    case value u => exact ⟨h.1, hm _ h.2⟩
    case skip => exact ⟨h.1, hm _ h.2⟩
    case enter f args => exact Calls.mono h fun _ _ ⟨he, hs⟩ => ⟨he, hm _ hs⟩
  | halt x w' => simp only [HasV] at h
/-- Before operation k the world is w1, behind it w2. -/
def TwoW (k : Nat) (w1 w2 : World) (L : Array Bool) (w : World) : Prop := w = if L.getD k false = true then w2 else w1
theorem two_step {k i : Nat} {w1 w2 : World} {Q : Act → Prop} {o : Oper} {rest : List Oper} {a : Act} {v : Value} (hne : (i == k) = false) (hw : Region.wanted o (yielded ops a.tmps) = true) (h : ∀ w, w = w1 ∨ w = w2 → HasV P (fun w' => w' = w) v ((execOp a.eval o).run P w))
    (hk : wpDet P ops (TwoW k w1 w2) Q (i + 1) rest (a.put o.dst v)) : wpDet P ops (TwoW k w1 w2) Q i (o :: rest) a :=
  ⟨v, .inl ⟨hw, fun L w hL hS => by
    have hne' : i ≠ k := by simpa using hne
    have e : ∀ w', TwoW k w1 w2 (L.setIfInBounds i true) w' ↔ TwoW k w1 w2 L w' := fun w' => by unfold TwoW; rw [getD_set_ne false hne']
    have hor : w = w1 ∨ w = w2 := by unfold TwoW at hS; split at hS <;> simp [hS]
    exact (h w hor).mono fun w' hw' => (e w').2 (hw' ▸ hS)⟩, hk⟩
theorem two_do {k i : Nat} {w1 w2 : World} {Q : Act → Prop} {o : Oper} {rest : List Oper} {a : Act} {v : Value} (hne : (i == k) = true) (hw : Region.wanted o (yielded ops a.tmps) = true) (h : HasV P (fun w' => w' = w2) v ((execOp a.eval o).run P w1))
    (hk : wpDet P ops (TwoW k w1 w2) Q (i + 1) rest (a.put o.dst v)) : wpDet P ops (TwoW k w1 w2) Q i (o :: rest) a :=
  ⟨v, .inl ⟨hw, fun L w hL hS => by
    obtain rfl : i = k := by simpa using hne
    have hlt : i < L.size := by
      rcases Nat.lt_or_ge i L.size with h' | h'
      · exact h'
      · simp [Array.getElem?_eq_none h'] at hL
    have h0 : L.getD i false = false := by simp [hlt] at hL ⊢; exact hL
    unfold TwoW at hS
    rw [h0] at hS
    simp only [Bool.false_eq_true, if_false] at hS
    subst hS
    refine h.mono fun w' hw' => ?_
    unfold TwoW
    have : (L.setIfInBounds i true).getD i false = true := by simp [hlt]
    rw [this, hw']
    rfl⟩, hk⟩
theorem two_skip {k i : Nat} {w1 w2 : World} {Q : Act → Prop} {o : Oper} {rest : List Oper} {a : Act} (hne : (i == k) = false) (hw : Region.wanted o (yielded ops a.tmps) = false)
    (hk : wpDet P ops (TwoW k w1 w2) Q (i + 1) rest (a.put o.dst undef)) : wpDet P ops (TwoW k w1 w2) Q i (o :: rest) a :=
  ⟨undef, .inr ⟨hw, rfl, fun L w _ hS => by
    have hne' : i ≠ k := by simpa using hne
    unfold TwoW at *
    rw [getD_set_ne false hne']
    exact hS⟩, hk⟩
theorem two_nil {k i : Nat} {w1 w2 : World} {Q : Act → Prop} {a : Act} (h : Q a) : wpDet P ops (TwoW k w1 w2) Q i [] a := h
theorem wp_region_two (k : Nat) (w2 : World) {id : Nat} {Q : Exit → Act → World → Prop} {a : Act} {w : World} {l : List Oper} (hm : P.follows .mixedOrders = true) (hB : Region.lexB .any l.toArray = true)
    (hk : (List.range' 0 l.length |>.foldl (fun L i => L.setIfInBounds i true) (Array.replicate l.length false)).getD k false = true)
    (h : wpDet P l.toArray (TwoW k w.drew w2) (fun a => Q .normal a w2) 0 l a) : (Code.region id l.toArray true).wp P Q a w := by
  refine wp_region_det (TwoW k w.drew w2) (fun w' => w' = w2) hm hB ?_ ?_ ?_
  · unfold TwoW
    have : (Array.replicate l.length false).getD k false = false := by
      rcases Nat.lt_or_ge k l.length with h' | h'
      · simp [h']
      · simp [Array.getElem?_eq_none, h']
    rw [this]
    rfl
  · intro w' h'
    unfold TwoW at h'
    rw [hk] at h'
    exact h'
  · refine cast ?_ h
    congr 1
    funext a
    simp
/-- append as a run known beforehand, as one step of a region that draws. -/
theorem step_append_run {o : Oper} {a : Act} {w : World} {K : Act → World → Prop} {Q : Exit → Act → World → Prop} {E : Prop} (hgd : o.guard = none) (s x : Operand) (t : TypeId)
    (ho : o.op = .call { callee := .builtin .append, args := #[s, x], argTypes := #[t, t] }) (va vb v' : Value) (w' : World) (hs : a.eval s = va) (hx : a.eval x = vb) (hr : (Builtin.append_ #[t, t] o.type #[va, vb]).run P w = .ok v' w')
    (h : K (a.put o.dst v') w') : if Region.wanted o (yielded ops a.tmps) = true then Oper.wp P o a w K Q else E := by
  have hw : Region.wanted o (yielded ops a.tmps) = true := by simp [Region.wanted, hgd]
  rw [if_pos hw]
  unfold Oper.wp execOp
  simp only [ho, resolve, invoke, builtin, Sem.run_bind, Sem.run_pure, Result.andThen_ok, List.map_toArray, List.map_cons, List.map_nil, hs, hx, hr]
  exact h
end
end Go.Ps
