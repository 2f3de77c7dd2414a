/- Drawn regions, as Rj, in a round. -/
import Derived.Test.YthoagpagnldmeaaRj
import Derived.OrdersIn
import Derived.OwnWalkIn
import Derived.RangeFuncCalls
set_option linter.unusedVariables false
set_option linter.unusedSimpArgs false
namespace Go.Ps.J
open Go.RowKit
section
variable {P : Program} {ops : Array Oper} {md : Region.Mode}
theorem callsIn_wide_of {k m : Nat} {f : FuncId} {args : Array Value} {w : World} {R : Ending → World → Prop} (h : Calls P f args w R) : CallsIn (Fence.wide.inRound k) m P f args w R := CallsIn.inRound k (callsIn_wide.2 h)
theorem Seq.anyIn {k : Nat} {F : Fence} (hFk : F = Fence.wide.inRound k) (hF : ∀ f, F.fn f) (hd : F.depth = none) {m : Nat} {C : World → Prop} {Q : Exit → Act → World → Prop} (hdf : ∀ (j : Nat) (o : Oper) c, ops[j]? = some o → o.op ≠ .defer c) (hsel : ∀ (j : Nat) (o : Oper) cs b, ops[j]? = some o → o.op ≠ .select cs b) :
    ∀ (n : Nat) (L : Array Bool) (a : Act) (w : World), Seq P ops md C Q n L a w → (C w ∨ n = 0) → Closed md ops L → wpAnyIn F m P md ops Q n L a w
  | 0, L, a, w, h, hS, hcl => by
    cases h with
    | done hr hQ => exact ⟨hr, hQ⟩
  | n + 1, L, a, w, h, hS, hcl => by
    have hCw : C w := by rcases hS with h | h; exact h; omega
    refine ⟨fun h0 => ?_, fun j hj => ?_⟩
    · cases h with
      | pure hi hf hr hw hg h => rw [h0] at hr; cases hr
      | skip hi hf hr hw h => rw [h0] at hr; cases hr
      | chain R hi hr hw hx hC h => rw [h0] at hr; cases hr
    · have hcl2 := hcl.step hj
      obtain ⟨n', oj, hn, hoj, hdo⟩ := h.swap hsel j hj
      obtain rfl : n = n' := by omega
      unfold wpOpIn
      simp only [hoj]
      rcases hdo with ⟨hw', u, hu, hs⟩ | ⟨hw', hs⟩ | ⟨hw', R, hx, hC, hs⟩
      · rw [if_pos hw']
        have h2 := hu w hCw
        unfold Oper.wpIn
        refine ⟨fun f _ => hF f, ?_⟩
        rw [Oper.semAt_plain F _ _ (hdf j oj · hoj)]
        generalize (execOp a.eval oj).run P w = r at h2 ⊢
        cases r with
        | ok nx w' =>
          cases nx <;> simp only [HasV] at h2 <;> simp only [Oper.uponIn]
          case value x => obtain ⟨rfl, rfl⟩ := h2; exact Seq.anyIn hFk hF hd hdf hsel n _ _ _ hs (.inl hCw) hcl2
          case skip => obtain ⟨rfl, rfl⟩ := h2; exact Seq.anyIn hFk hF hd hdf hsel n _ _ _ hs (.inl hCw) hcl2
          case enter f args =>
            refine ⟨(fun h => by rw [hd] at h; cases h), (hFk ▸ callsIn_wide_of h2).mono ?_⟩
            intro e w'' ⟨he, h3⟩
            subst he; subst h3; exact Seq.anyIn hFk hF hd hdf hsel n _ _ _ hs (.inl hCw) hcl2
        | halt x w' => simp only [HasV] at h2
      · rw [if_neg (by rw [hw']; simp)]
        refine ⟨fun f _ => hF f, ?_⟩
        exact Seq.anyIn hFk hF hd hdf hsel n _ _ _ hs (.inl hCw) hcl2
      · rw [if_pos hw']
        have go : ∀ v w', R v w' → wpAnyIn F m P md ops Q n (L.setIfInBounds j true) (a.put oj.dst v) w' := by
          intro v w' hR
          refine Seq.anyIn hFk hF hd hdf hsel n _ _ _ (hs v w' hR) ?_ hcl2
          rcases hC with hC | hC
          · exact .inl (hC v w' hR)
          · right
            -- nothing else is left
            cases n with
            | zero => rfl
            | succ n =>
              exfalso
              have hnone : ∀ k, k ∉ Region.ready md ops (L.setIfInBounds j true) := by
                intro k hk
                by_cases hkj : k = j
                · subst hkj
                  have h0 := (mem_ready.1 hk).1
                  have hlt := (Array.getElem?_eq_some_iff.1 hoj).1
                  rcases Nat.lt_or_ge k L.size with h' | h'
                  · simp [h'] at h0
                  · simp [Array.getElem?_eq_none (show (L.setIfInBounds k true).size ≤ k by simpa using h')] at h0
                · have hk0 : L.getD k true = false := by have := (mem_ready.1 hk).1; rwa [getD_set_ne true (Ne.symm hkj)] at this
                  obtain ⟨_, ok, hok, _⟩ := mem_ready.1 hk
                  have hlt := (Array.getElem?_eq_some_iff.1 hok).1
                  have h1 := List.all_eq_true.1 hC k (List.mem_range.2 hlt)
                  simp only [Bool.or_eq_true, beq_iff_eq, hkj, false_or] at h1
                  rw [Array.any_eq_true'] at h1
                  obtain ⟨e, he, hb⟩ := h1
                  simp only [Bool.and_eq_true] at hb
                  obtain ⟨_, oj', hoj', hall⟩ := mem_ready.1 hj
                  obtain rfl : oj' = oj := Option.some.inj (hoj'.symm.trans hoj)
                  have h2 : L.getD k false = true := by
                    have h3 := hall e he hb.1
                    exact hcl.reach 6 e.on hb.2 h3
                  rcases Nat.lt_or_ge k L.size with h' | h'
                  · simp [h'] at h2 hk0; rw [hk0] at h2; cases h2
                  · simp [Array.getElem?_eq_none h'] at h2
              cases hs v w' hR with
              | pure hi hf hr hw hg h => exact hnone _ hr
              | skip hi hf hr hw h => exact hnone _ hr
              | chain R hi hr hw hx hC h => rw [hr] at hnone; exact hnone _ (List.mem_singleton.2 rfl)
        unfold Oper.wpIn
        refine ⟨fun f _ => hF f, ?_⟩
        rw [Oper.semAt_plain F _ _ (hdf j oj · hoj)]
        generalize (execOp a.eval oj).run P w = r at hx ⊢
        cases r with
        | ok nx w' =>
          cases nx <;> simp only [HasR] at hx <;> simp only [Oper.uponIn]
          case value x => exact go _ _ hx
          case skip => exact go _ _ hx
          case enter f args =>
            refine ⟨(fun h => by rw [hd] at h; cases h), (hFk ▸ callsIn_wide_of hx).mono ?_⟩
            intro e w'' ⟨v, he, h3⟩
            subst he; exact go _ _ h3
        | halt x w' => simp only [HasR] at hx


def noDefer (ops : Array Oper) : Bool := ops.all fun o => match o.op with | .defer _ => false | _ => true
theorem noDefer_spec (h : noDefer ops = true) (j : Nat) (o : Oper) (c : Call) (ho : ops[j]? = some o) : o.op ≠ .defer c := by
  intro e
  unfold noDefer at h
  rw [Array.all_eq_true'] at h
  have := h o (Array.mem_of_getElem? ho)
  rw [e] at this
  cases this
/-- The law. -/
theorem wpIn_region_seq {k m : Nat} {Q : Exit → Act → World → Prop} {a : Act} {w : World} (C : World → Prop) (ord : List (Nat × Nat)) {id : Nat} {l : List Oper} (hm : P.follows .mixedOrders = true) (hs : (Region.noSelect l.toArray && noDefer l.toArray) = true) (hB : (ord.length == l.length && ordB .any l.toArray ord (Array.replicate l.length false)) = true)
    (hC : C w.drew) (h : wpSeq P l.toArray .any C Q ord a w.drew) : (Code.region id l.toArray true).wpIn (Fence.wide.inRound k) m P Q a w := by
  simp only [Bool.and_eq_true, beq_iff_eq] at hB hs
  refine wpIn_region_any hm ?_
  have hp := wpSeq_seq (md := .any) ord (Array.replicate l.length false) a w.drew hB.2 h
  rw [hB.1] at hp
  have := Seq.anyIn (F := Fence.wide.inRound k) (m := m) rfl (fun _ => trivial) rfl (fun j o c ho => noDefer_spec hs.2 j o c ho) (Region.noSelect_spec hs.1) l.length _ _ _ hp (.inl hC) (by
    intro m om hm hd
    rcases Nat.lt_or_ge m l.length with h' | h'
    · simp [Array.getD_eq_getD_getElem?, h'] at hd
    · simp [Array.getD_eq_getD_getElem?, Array.getElem?_eq_none, h'] at hd)
  exact this
end
end Go.Ps.J
