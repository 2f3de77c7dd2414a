/- Drawn regions whose calls and memory operations stand in a chain, and whose other operations only look at what does not change: walked once, in an order of my choice (the others as early as they can). -/
import Derived.Test.YthoagpagnldmeaaRd
import Derived.Still
import Derived.Orders
set_option linter.unusedVariables false
set_option linter.unusedSimpArgs false
namespace Go.Ps.J
open Go.RowKit
section
variable {P : Program} {ops : Array Oper} {md : Region.Mode}

/-- What an operation's run may leave: a value and a world in R. -/
def HasR (P : Program) (R : Value → World → Prop) : Result Next → Prop
  | .ok (.value u) w' => R u w'
  | .ok .skip w' => R undef w'
  | .ok (.enter f args) w' => Calls P f args w' fun e w'' => ∃ v, e = .returned v ∧ R v w''
  | _ => False
theorem HasR.val {R : Value → World → Prop} {v : Value} {w : World} (h : R v w) : HasR P R (.ok (.value v) w) := h
theorem HasR.skip {R : Value → World → Prop} {w : World} (h : R undef w) : HasR P R (.ok .skip w) := h
theorem HasR.call {R : Value → World → Prop} {f : FuncId} {args : Array Value} {w : World} (h : Calls P f args w fun e w'' => ∃ v, e = .returned v ∧ R v w'') : HasR P R (.ok (.enter f args) w) := h
/-- Every other operation must lie behind. -/
def reach (md : Region.Mode) (ops : Array Oper) (j : Nat) : Nat → Nat → Bool
  | 0, m => m == j
  | f + 1, m => m == j || match ops[m]? with | some om => om.after.any fun e => Region.binds md e && reach md ops j f e.on | none => false
def allAhead (md : Region.Mode) (ops : Array Oper) (i : Nat) (o : Oper) : Bool := (List.range ops.size).all fun j => j == i || o.after.any fun e => Region.binds md e && reach md ops j 6 e.on
/-- What is done has all done that it waits for. -/
def Closed (md : Region.Mode) (ops : Array Oper) (L : Array Bool) : Prop := ∀ m om, ops[m]? = some om → L.getD m false = true → ∀ e ∈ om.after, Region.binds md e = true → L.getD e.on false = true
theorem Closed.reach {md : Region.Mode} {ops : Array Oper} {L : Array Bool} (h : Closed md ops L) {j : Nat} : ∀ (f m : Nat), J.reach md ops j f m = true → L.getD m false = true → L.getD j false = true
  | 0, m, hr, hd => by
    have : m = j := by simpa [J.reach] using hr
    rw [← this]; exact hd
  | f + 1, m, hr, hd => by
    unfold J.reach at hr
    rw [Bool.or_eq_true] at hr
    rcases hr with hr | hr
    · have : m = j := by simpa using hr
      rw [← this]; exact hd
    · split at hr
      · rename_i om hom
        rw [Array.any_eq_true'] at hr
        obtain ⟨e, he, hb⟩ := hr
        rw [Bool.and_eq_true] at hb
        exact h.reach f e.on hb.2 (h m om hom hd e he hb.1)
      · cases hr
theorem getD_up {L : Array Bool} {k j : Nat} (h : L.getD k false = true) : (L.setIfInBounds j true).getD k false = true := by
  by_cases hk : k < L.size
  · simp only [Array.getD_eq_getD_getElem?, Array.getElem?_setIfInBounds] at h ⊢
    split
    · rename_i e
      split <;> simp_all
    · exact h
  · simp [Array.getElem?_eq_none (Nat.le_of_not_lt hk)] at h
theorem Closed.step {md : Region.Mode} {ops : Array Oper} {L : Array Bool} {j : Nat} (h : Closed md ops L) (hj : j ∈ Region.ready md ops L) : Closed md ops (L.setIfInBounds j true) := by
  intro m om hm hd e he hb
  by_cases hmj : m = j
  · subst hmj
    obtain ⟨_, o', ho', hall⟩ := mem_ready.1 hj
    obtain rfl : o' = om := Option.some.inj (ho'.symm.trans hm)
    exact getD_up (hall e he hb)
  · refine getD_up (h m om hm ?_ e he hb)
    have hne : ¬ j = m := fun e => hmj e.symm
    simpa [Array.getD_eq_getD_getElem?, Array.getElem?_setIfInBounds, hne] using hd

inductive Seq (P : Program) (ops : Array Oper) (md : Region.Mode) (C : World → Prop) (Q : Exit → Act → World → Prop) : Nat → Array Bool → Act → World → Prop
  | done {L : Array Bool} {a : Act} {w : World} (hr : Region.ready md ops L = []) (hQ : Q .normal a w) : Seq P ops md C Q 0 L a w
  | pure {n : Nat} {L : Array Bool} {a : Act} {w : World} {i : Nat} {o : Oper} {v : Value} (hi : ops[i]? = some o)
      (hf : ∀ j oj, ops[j]? = some oj → j ≠ i → L.getD j true = false → (∀ e ∈ oj.after, Region.binds md e = true → e.on ≠ i) → o.apart ops oj = true)
      (hr : i ∈ Region.ready md ops L) (hw : Region.wanted o (yielded ops a.tmps) = true) (hg : ∀ W, C W → HasV P (fun w' => w' = W) v ((execOp a.eval o).run P W))
      (h : Seq P ops md C Q n (L.setIfInBounds i true) (a.put o.dst v) w) : Seq P ops md C Q (n + 1) L a w
  | skip {n : Nat} {L : Array Bool} {a : Act} {w : World} {i : Nat} {o : Oper} (hi : ops[i]? = some o)
      (hf : ∀ j oj, ops[j]? = some oj → j ≠ i → L.getD j true = false → (∀ e ∈ oj.after, Region.binds md e = true → e.on ≠ i) → o.apart ops oj = true)
      (hr : i ∈ Region.ready md ops L) (hw : Region.wanted o (yielded ops a.tmps) = false)
      (h : Seq P ops md C Q n (L.setIfInBounds i true) (a.put o.dst undef) w) : Seq P ops md C Q (n + 1) L a w
  | chain {n : Nat} {L : Array Bool} {a : Act} {w : World} {i : Nat} {o : Oper} (R : Value → World → Prop) (hi : ops[i]? = some o) (hr : Region.ready md ops L = [i]) (hw : Region.wanted o (yielded ops a.tmps) = true)
      (hx : HasR P R ((execOp a.eval o).run P w)) (hC : (∀ v w', R v w' → C w') ∨ allAhead md ops i o = true) (h : ∀ v w', R v w' → Seq P ops md C Q n (L.setIfInBounds i true) (a.put o.dst v) w') : Seq P ops md C Q (n + 1) L a w

/-- What a ready operation does. -/
def Does (P : Program) (ops : Array Oper) (md : Region.Mode) (C : World → Prop) (Q : Exit → Act → World → Prop) (m : Nat) (L : Array Bool) (a : Act) (w : World) (j : Nat) (oj : Oper) : Prop :=
  (Region.wanted oj (yielded ops a.tmps) = true ∧ ∃ v, (∀ W, C W → HasV P (fun w' => w' = W) v ((execOp a.eval oj).run P W)) ∧ Seq P ops md C Q m (L.setIfInBounds j true) (a.put oj.dst v) w) ∨
  (Region.wanted oj (yielded ops a.tmps) = false ∧ Seq P ops md C Q m (L.setIfInBounds j true) (a.put oj.dst undef) w) ∨
  (Region.wanted oj (yielded ops a.tmps) = true ∧ ∃ R, HasR P R ((execOp a.eval oj).run P w) ∧ ((∀ v w', R v w' → C w') ∨ allAhead md ops j oj = true) ∧ ∀ v w', R v w' → Seq P ops md C Q m (L.setIfInBounds j true) (a.put oj.dst v) w')
theorem Seq.swap {C : World → Prop} {Q : Exit → Act → World → Prop} (hsel : ∀ (j : Nat) (o : Oper) cs b, ops[j]? = some o → o.op ≠ .select cs b) :
    ∀ {n : Nat} {L : Array Bool} {a : Act} {w : World}, Seq P ops md C Q n L a w → ∀ j, j ∈ Region.ready md ops L → ∃ m oj, n = m + 1 ∧ ops[j]? = some oj ∧ Does P ops md C Q m L a w j oj := by
  intro n L a w hp
  have hnot : ∀ {L : Array Bool} {i j : Nat} {oj : Oper}, i ∈ Region.ready md ops L → j ∈ Region.ready md ops L → ops[j]? = some oj → ∀ e ∈ oj.after, Region.binds md e = true → e.on ≠ i := by
    intro L i j oj hr hj hoj e he hb heq
    obtain ⟨_, oj', hoj', hall⟩ := mem_ready.1 hj
    obtain rfl : oj' = oj := Option.some.inj (hoj'.symm.trans hoj)
    have h1 := hall e he hb
    have h0 := (mem_ready.1 hr).1
    rw [heq] at h1
    rcases Nat.lt_or_ge i L.size with h' | h'
    · simp [h'] at h0 h1; rw [h0] at h1; cases h1
    · simp [Array.getElem?_eq_none h'] at h1
  induction hp with
  | done hr hQ => intro j hj; rw [hr] at hj; cases hj
  | @pure n L a w i o v hi hf hr hw hg h ih =>
    intro j hj
    by_cases hji : j = i
    · subst hji
      exact ⟨n, o, rfl, hi, .inl ⟨hw, v, hg, h⟩⟩
    · obtain ⟨m, oj, hn, hoj, hd⟩ := ih j (ready_mono hj hji)
      obtain ⟨h1, h2, h3⟩ := Oper.apart_spec (hf j oj hoj hji (mem_ready.1 hj).1 (hnot hr hj hoj))
      have he : execOp (a.put o.dst v).eval oj = execOp a.eval oj := execOp_put oj (fun cs b => hsel j oj cs b hoj) a o.dst v h1
      have hwj : Region.wanted oj (yielded ops (a.put o.dst v).tmps) = Region.wanted oj (yielded ops a.tmps) := wanted_put oj a o.dst v h1
      have back : ∀ (u : Value) (w' : World), Seq P ops md C Q m ((L.setIfInBounds i true).setIfInBounds j true) ((a.put o.dst v).put oj.dst u) w' → Seq P ops md C Q (m + 1) (L.setIfInBounds j true) (a.put oj.dst u) w' := by
        intro u w' hs
        refine Seq.pure (i := i) (v := v) hi ?_ (ready_mono hr (Ne.symm hji)) ?_ ?_ ?_
        · intro k ok hk hki hun hno
          refine hf k ok hk hki ?_ hno
          by_cases hjk : j = k
          · subst hjk; exact (mem_ready.1 hj).1
          · rw [getD_set_ne true hjk] at hun; exact hun
        · rw [wanted_put o a oj.dst u h3]; exact hw
        · rw [execOp_put o (fun cs b => hsel i o cs b hi) a oj.dst u h3]; exact hg
        · rw [Array.setIfInBounds_comm _ _ hji, ← Act.put_comm a v u h2]
          exact hs
      unfold Does at hd
      rw [he, hwj] at hd
      refine ⟨m + 1, oj, by rw [hn], hoj, ?_⟩
      rcases hd with ⟨hw', u, hu, hs⟩ | ⟨hw', hs⟩ | ⟨hw', R, hx, hC, hs⟩
      · exact .inl ⟨hw', u, hu, back u w hs⟩
      · exact .inr (.inl ⟨hw', back undef w hs⟩)
      · exact .inr (.inr ⟨hw', R, hx, hC, fun u w' hR => back u w' (hs u w' hR)⟩)
  | @skip n L a w i o hi hf hr hw h ih =>
    intro j hj
    by_cases hji : j = i
    · subst hji
      exact ⟨n, o, rfl, hi, .inr (.inl ⟨hw, h⟩)⟩
    · obtain ⟨m, oj, hn, hoj, hd⟩ := ih j (ready_mono hj hji)
      obtain ⟨h1, h2, h3⟩ := Oper.apart_spec (hf j oj hoj hji (mem_ready.1 hj).1 (hnot hr hj hoj))
      have he : execOp (a.put o.dst undef).eval oj = execOp a.eval oj := execOp_put oj (fun cs b => hsel j oj cs b hoj) a o.dst undef h1
      have hwj : Region.wanted oj (yielded ops (a.put o.dst undef).tmps) = Region.wanted oj (yielded ops a.tmps) := wanted_put oj a o.dst undef h1
      have back : ∀ (u : Value) (w' : World), Seq P ops md C Q m ((L.setIfInBounds i true).setIfInBounds j true) ((a.put o.dst undef).put oj.dst u) w' → Seq P ops md C Q (m + 1) (L.setIfInBounds j true) (a.put oj.dst u) w' := by
        intro u w' hs
        refine Seq.skip (i := i) hi ?_ (ready_mono hr (Ne.symm hji)) ?_ ?_
        · intro k ok hk hki hun hno
          refine hf k ok hk hki ?_ hno
          by_cases hjk : j = k
          · subst hjk; exact (mem_ready.1 hj).1
          · rw [getD_set_ne true hjk] at hun; exact hun
        · rw [wanted_put o a oj.dst u h3]; exact hw
        · rw [Array.setIfInBounds_comm _ _ hji, ← Act.put_comm a undef u h2]
          exact hs
      unfold Does at hd
      rw [he, hwj] at hd
      refine ⟨m + 1, oj, by rw [hn], hoj, ?_⟩
      rcases hd with ⟨hw', u, hu, hs⟩ | ⟨hw', hs⟩ | ⟨hw', R, hx, hC, hs⟩
      · exact .inl ⟨hw', u, hu, back u w hs⟩
      · exact .inr (.inl ⟨hw', back undef w hs⟩)
      · exact .inr (.inr ⟨hw', R, hx, hC, fun u w' hR => back u w' (hs u w' hR)⟩)
  | @chain n L a w i o R hi hr hw hx hC h ih =>
    intro j hj
    rw [hr] at hj
    obtain rfl : j = i := by simpa using hj
    exact ⟨n, o, rfl, hi, .inr (.inr ⟨hw, R, hx, hC, h⟩)⟩
theorem Seq.any {C : World → Prop} {Q : Exit → Act → World → Prop} (hsel : ∀ (j : Nat) (o : Oper) cs b, ops[j]? = some o → o.op ≠ .select cs b) :
    ∀ (n : Nat) (L : Array Bool) (a : Act) (w : World), Seq P ops md C Q n L a w → (C w ∨ n = 0) → Closed md ops L → wpAny P md ops Q n L a w
  | 0, L, a, w, h, hS, hcl => by
    cases h with
    | done hr hQ => exact ⟨hr, hQ⟩
  | n + 1, L, a, w, h, hS, hcl => by
    have hCw : C w := by rcases hS with h | h; exact h; omega
    refine ⟨fun h0 => ?_, fun j hj => ?_⟩
    · cases h with
      | pure hi hf hr hw hg h => rw [h0] at hr; cases hr
      | skip hi hf hr hw h => rw [h0] at hr; cases hr
      | chain R hi hr hw hx hC h => rw [h0] at hr; cases hr
    · have hcl2 := hcl.step hj
      obtain ⟨m, oj, hn, hoj, hd⟩ := h.swap hsel j hj
      obtain rfl : n = m := by omega
      unfold wpOp
      simp only [hoj]
      rcases hd with ⟨hw', u, hu, hs⟩ | ⟨hw', hs⟩ | ⟨hw', R, hx, hC, hs⟩
      · rw [if_pos hw']
        refine .inl ?_
        have h2 := hu w hCw
        unfold Oper.wp
        generalize (execOp a.eval oj).run P w = r at h2 ⊢
        cases r with
        | ok nx w' =>
          cases nx <;> simp only [HasV] at h2 <;> simp only [Oper.upon]
          case value x => obtain ⟨rfl, rfl⟩ := h2; exact Seq.any hsel n _ _ _ hs (.inl hCw) hcl2
          case skip => obtain ⟨rfl, rfl⟩ := h2; exact Seq.any hsel n _ _ _ hs (.inl hCw) hcl2
          case enter f args => exact h2.mono fun e w'' ⟨he, h3⟩ => by subst he; subst h3; exact Seq.any hsel n _ _ _ hs (.inl hCw) hcl2
        | halt x w' => simp only [HasV] at h2
      · rw [if_neg (by rw [hw']; simp)]
        exact Seq.any hsel n _ _ _ hs (.inl hCw) hcl2
      · rw [if_pos hw']
        refine .inl ?_
        have go : ∀ v w', R v w' → wpAny P md ops Q n (L.setIfInBounds j true) (a.put oj.dst v) w' := by
          intro v w' hR
          refine Seq.any hsel n _ _ _ (hs v w' hR) ?_ hcl2
          rcases hC with hC | hC
          · exact .inl (hC v w' hR)
          · right
            -- nothing else is left
            cases n with
            | zero => rfl
            | succ n =>
              exfalso
              have hnone : ∀ k, k ∉ Region.ready md ops (L.setIfInBounds j true) := by
                intro k hk
                by_cases hkj : k = j
                · subst hkj
                  have h0 := (mem_ready.1 hk).1
                  have hlt := (Array.getElem?_eq_some_iff.1 hoj).1
                  rcases Nat.lt_or_ge k L.size with h' | h'
                  · simp [h'] at h0
                  · simp [Array.getElem?_eq_none (show (L.setIfInBounds k true).size ≤ k by simpa using h')] at h0
                · have hk0 : L.getD k true = false := by have := (mem_ready.1 hk).1; rwa [getD_set_ne true (Ne.symm hkj)] at this
                  obtain ⟨_, ok, hok, _⟩ := mem_ready.1 hk
                  have hlt := (Array.getElem?_eq_some_iff.1 hok).1
                  have h1 := List.all_eq_true.1 hC k (List.mem_range.2 hlt)
                  simp only [Bool.or_eq_true, beq_iff_eq, hkj, false_or] at h1
                  rw [Array.any_eq_true'] at h1
                  obtain ⟨e, he, hb⟩ := h1
                  simp only [Bool.and_eq_true] at hb
                  obtain ⟨_, oj', hoj', hall⟩ := mem_ready.1 hj
                  obtain rfl : oj' = oj := Option.some.inj (hoj'.symm.trans hoj)
                  have h2 : L.getD k false = true := by
                    have h3 := hall e he hb.1
                    exact hcl.reach 6 e.on hb.2 h3
                  rcases Nat.lt_or_ge k L.size with h' | h'
                  · simp [h'] at h2 hk0; rw [hk0] at h2; cases h2
                  · simp [Array.getElem?_eq_none h'] at h2
              cases hs v w' hR with
              | pure hi hf hr hw hg h => exact hnone _ hr
              | skip hi hf hr hw h => exact hnone _ hr
              | chain R hi hr hw hx hC h => rw [hr] at hnone; exact hnone _ (List.mem_singleton.2 rfl)
        unfold Oper.wp
        generalize (execOp a.eval oj).run P w = r at hx ⊢
        cases r with
        | ok nx w' =>
          cases nx <;> simp only [HasR] at hx <;> simp only [Oper.upon]
          case value x => exact go _ _ hx
          case skip => exact go _ _ hx
          case enter f args => exact hx.mono fun e w'' ⟨v, he, h3⟩ => by subst he; exact go _ _ h3
        | halt x w' => simp only [HasR] at hx

/-! ### the walk: ord: (operation, kind), kind 0: it only looks; 1: a link of the chain -/
def ordB (md : Region.Mode) (ops : Array Oper) : List (Nat × Nat) → Array Bool → Bool
  | [], L => (Region.ready md ops L).isEmpty
  | (i, k) :: rest, L => (if k = 0 then (Region.ready md ops L).contains i && Region.free md ops L i else Region.ready md ops L == [i]) && ordB md ops rest (L.setIfInBounds i true)
def wpSeq (P : Program) (ops : Array Oper) (md : Region.Mode) (C : World → Prop) (Q : Exit → Act → World → Prop) : List (Nat × Nat) → Act → World → Prop
  | [], a, w => Q .normal a w
  | (i, k) :: rest, a, w => ∃ o, ops[i]? = some o ∧
    ((k = 0 ∧ Region.wanted o (yielded ops a.tmps) = true ∧ ∃ v, (∀ W, C W → HasV P (fun w' => w' = W) v ((execOp a.eval o).run P W)) ∧ wpSeq P ops md C Q rest (a.put o.dst v) w) ∨
     (k = 0 ∧ Region.wanted o (yielded ops a.tmps) = false ∧ wpSeq P ops md C Q rest (a.put o.dst undef) w) ∨
     (k ≠ 0 ∧ Region.wanted o (yielded ops a.tmps) = true ∧ ∃ R, HasR P R ((execOp a.eval o).run P w) ∧ ((∀ v w', R v w' → C w') ∨ allAhead md ops i o = true) ∧ ∀ v w', R v w' → wpSeq P ops md C Q rest (a.put o.dst v) w'))
theorem wpSeq_seq {C : World → Prop} {Q : Exit → Act → World → Prop} : ∀ (ord : List (Nat × Nat)) (L : Array Bool) (a : Act) (w : World), ordB md ops ord L = true → wpSeq P ops md C Q ord a w → Seq P ops md C Q ord.length L a w
  | [], L, a, w, hB, h => Seq.done (by simpa [ordB] using hB) h
  | (i, k) :: rest, L, a, w, hB, h => by
    simp only [ordB, Bool.and_eq_true] at hB
    obtain ⟨h1, h2⟩ := hB
    obtain ⟨o, ho, h⟩ := h
    rcases h with ⟨rfl, hw, v, hg, hk⟩ | ⟨rfl, hw, hk⟩ | ⟨hk0, hw, R, hx, hC, hk⟩
    · simp only [if_true, Bool.and_eq_true] at h1
      exact Seq.pure ho (Region.free_spec ho h1.2) (by simpa using h1.1) hw hg (wpSeq_seq rest _ _ _ h2 hk)
    · simp only [if_true, Bool.and_eq_true] at h1
      exact Seq.skip ho (Region.free_spec ho h1.2) (by simpa using h1.1) hw (wpSeq_seq rest _ _ _ h2 hk)
    · rw [if_neg hk0] at h1
      exact Seq.chain R ho (by simpa using h1) hw hx hC (fun v w' hR => wpSeq_seq rest _ _ _ h2 (hk v w' hR))
variable {C : World → Prop} {Q : Exit → Act → World → Prop} {i : Nat} {o : Oper} {rest : List (Nat × Nat)} {a : Act} {w : World} {l : List Oper}
theorem look {v : Value} (ho : l[i]? = some o) (hw : Region.wanted o (yielded l.toArray a.tmps) = true) (hg : ∀ W, C W → HasV P (fun w' => w' = W) v ((execOp a.eval o).run P W)) (h : wpSeq P l.toArray md C Q rest (a.put o.dst v) w) : wpSeq P l.toArray md C Q ((i, 0) :: rest) a w :=
  ⟨o, by rw [List.getElem?_toArray]; exact ho, .inl ⟨rfl, hw, v, hg, h⟩⟩
theorem pass (ho : l[i]? = some o) (hw : Region.wanted o (yielded l.toArray a.tmps) = false) (h : wpSeq P l.toArray md C Q rest (a.put o.dst undef) w) : wpSeq P l.toArray md C Q ((i, 0) :: rest) a w :=
  ⟨o, by rw [List.getElem?_toArray]; exact ho, .inr (.inl ⟨rfl, hw, h⟩)⟩
theorem link (R : Value → World → Prop) (ho : l[i]? = some o) (hw : Region.wanted o (yielded l.toArray a.tmps) = true) (hx : HasR P R ((execOp a.eval o).run P w)) (hC : ∀ v w', R v w' → C w') (h : ∀ v w', R v w' → wpSeq P l.toArray md C Q rest (a.put o.dst v) w') : wpSeq P l.toArray md C Q ((i, 1) :: rest) a w :=
  ⟨o, by rw [List.getElem?_toArray]; exact ho, .inr (.inr ⟨by simp, hw, R, hx, .inl hC, h⟩)⟩
theorem final (R : Value → World → Prop) (ho : l[i]? = some o) (hw : Region.wanted o (yielded l.toArray a.tmps) = true) (hall : allAhead md l.toArray i o = true) (hx : HasR P R ((execOp a.eval o).run P w)) (h : ∀ v w', R v w' → wpSeq P l.toArray md C Q rest (a.put o.dst v) w') : wpSeq P l.toArray md C Q ((i, 1) :: rest) a w :=
  ⟨o, by rw [List.getElem?_toArray]; exact ho, .inr (.inr ⟨by simp, hw, R, hx, .inr hall, h⟩)⟩
theorem fin (h : Q .normal a w) : wpSeq P ops md C Q [] a w := h
/-- The law. -/
theorem wp_region_seq (C : World → Prop) (ord : List (Nat × Nat)) {id : Nat} {l : List Oper} (hm : P.follows .mixedOrders = true) (hs : Region.noSelect l.toArray = true) (hB : (ord.length == l.length && ordB .any l.toArray ord (Array.replicate l.length false)) = true)
    (hC : C w.drew) (h : wpSeq P l.toArray .any C Q ord a w.drew) : (Code.region id l.toArray true).wp P Q a w := by
  simp only [Bool.and_eq_true, beq_iff_eq] at hB
  refine wp_region_any hm ?_
  have hp := wpSeq_seq (md := .any) ord (Array.replicate l.length false) a w.drew hB.2 h
  rw [hB.1] at hp
  have := Seq.any (Region.noSelect_spec hs) l.length _ _ _ hp (.inl hC) (by
    intro m om hm hd
    rcases Nat.lt_or_ge m l.length with h' | h'
    · simp [Array.getD_eq_getD_getElem?, h'] at hd
    · simp [Array.getD_eq_getD_getElem?, Array.getElem?_eq_none, h'] at hd)
  exact this
end
end Go.Ps.J
