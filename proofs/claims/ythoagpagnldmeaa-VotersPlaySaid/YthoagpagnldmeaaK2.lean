/- Kit, second part. -/
import Derived.Test.YthoagpagnldmeaaKit
import Derived.Deep.DeepAppendWide
set_option linter.unusedVariables false
set_option linter.unusedSimpArgs false
namespace Go.Ps
open Go.RowKit

section
variable {P : Program} {w : World} {e t ty : TypeId} {q : IntKind} {v : Value} {l : List Int}
/-- append(v, m...), v a row of the call's own; up to four fifths of 2^48 bytes. -/
theorem Own.appendW (h : Own w e q v l) (ty : TypeId) (ht : P.underlying t = some (.slice e)) {z : Int} {bytes : Nat} (hinfo : (P.info? e).map (fun i => (i.zero, i.size, i.bytes)) = some (some (.int q z), 1, bytes)) {A : Option Addr} {m : List Int} (c : Nat) (hr : ReadsI w q A m)
    (hm : ((l.length + m.length) + (l.length + m.length) / 4 + 192) * bytes ≤ 281474976710656) (hby : 1 ≤ bytes) :
    ∃ A' c' w2, (Builtin.append_ #[t, t] ty #[v, .slice A m.length c]).run P w = .ok (.slice A' (l.length + m.length) c') w2 ∧ Own w2 e q (.slice A' (l.length + m.length) c') (l ++ m) ∧ w.grownBy w2 v.ownBlock ∧
      (Value.ownBlock (.slice A' (l.length + m.length) c') = v.ownBlock ∨ Value.ownBlock (.slice A' (l.length + m.length) c') = some w.heap.size) := by
  obtain ⟨i, hi, hzz⟩ := Option.map_eq_some_iff.1 hinfo
  simp only [Prod.mk.injEq] at hzz
  obtain ⟨hz, hs, hb⟩ := hzz
  cases A with
  | none =>
    obtain rfl := hr.none
    obtain ⟨A', c', hv, _, _, _⟩ := h.form
    refine ⟨A', c', w, ?_, ?_, ⟨rfl, rfl, rfl, Nat.le_refl _, fun _ _ _ => rfl⟩, Or.inl ?_⟩
    · rw [List.length_nil, run_append_nothing i ht hi h c, Nat.add_zero, ← hv]
    · rw [List.length_nil, Nat.add_zero, List.append_nil, ← hv]; exact h
    · rw [List.length_nil, Nat.add_zero, hv]
  | some a =>
    have h1 : ∀ u ∈ m.map (Value.int q), u.oneCell' = true := by
      intro u hu
      obtain ⟨x, _, rfl⟩ := List.mem_map.1 hu
      rfl
    have hsm : (l.length + m.length) ≤ 281474976710656 := by
      have := Nat.le_mul_of_pos_right ((l.length + m.length) + (l.length + m.length) / 4 + 192) hby
      omega
    obtain ⟨v', w2, hrun, ho, hg, hnil⟩ := run_append_own_wide (P := P) w 0 t ty e i (.int q z) 1 bytes ht hi hz hs hb rfl (by omega) v l.length (l.map (Value.int q)) h a m.length c (m.map (Value.int q)) (by simp) hr.cells h1 (by unfold maxLen; omega) hm (by omega)
    have ho' : Own w2 e q v' (l ++ m) := by
      unfold Own
      rw [List.length_append, List.map_append]
      exact ho
    obtain ⟨A', c', hv, _, _, _⟩ := ho'.form
    rw [List.length_append] at hv
    subst hv
    refine ⟨A', c', w2, hrun, ho', hg, ?_⟩
    rcases h.2 with ⟨rfl, h0⟩ | ⟨g, cap, cur, rfl, hbg, hgg, hnc, hcm, hcs, htake⟩
    · by_cases hm0 : m.length = 0
      · left
        rw [hnil.2 ⟨rfl, hm0⟩]
      · have hr2 := run_append_nil (P := P) w t ty e i (.int q z) ht hi hz a m.length c (m.map (Value.int q)) (by simp [hs]) hr.cells (by omega) (by omega) (by rw [hb]; exact Nat.le_trans (Nat.mul_le_mul_right _ (by omega)) hm)
        rw [h0, hr2] at hrun
        simp only [Result.ok.injEq] at hrun
        right
        rw [h0, ← hrun.1]
        rfl
    · by_cases hroom : l.length + m.length ≤ cap
      · have hr2 := run_append_room (P := P) w t ty e i ht hi g l.length cap cur hgg a m.length c (m.map (Value.int q)) (by simp [hs]) hr.cells h1 hroom (by simp [hs]; omega)
        rw [hr2] at hrun
        simp only [Result.ok.injEq] at hrun
        left
        rw [← hrun.1]
        rfl
      · have hr2 := run_append_grow (P := P) w t ty e i (.int q z) ht hi hz ⟨g, 0, none⟩ l.length cap (l.map (Value.int q)) (by simp [hs]) (World.ownsRow.cells (g := g) h rfl) a m.length c (m.map (Value.int q)) (by simp [hs]) hr.cells (by omega) (by omega) (by rw [hb]; exact growslice_fits_wide (by omega) hm)
        rw [hr2] at hrun
        simp only [Result.ok.injEq] at hrun
        right
        rw [← hrun.1]
        rfl
theorem Own.append1W (h : Own w e q v l) (ty : TypeId) (ht : P.underlying t = some (.slice e)) {z : Int} {bytes : Nat} (hinfo : (P.info? e).map (fun i => (i.zero, i.size, i.bytes)) = some (some (.int q z), 1, bytes)) (x : Int) (hm : ((l.length + 1) + (l.length + 1) / 4 + 192) * bytes ≤ 281474976710656) (hby : 1 ≤ bytes) :
    ∃ A' c' w2, (Builtin.append_ #[t, t] ty #[v, .slice (some ⟨w.heap.size, 0, none⟩) 1 1]).run P (w.alloc (.cells #[.int q x] e)) = .ok (.slice A' (l.length + 1) c') w2 ∧ Own w2 e q (.slice A' (l.length + 1) c') (l ++ [x]) ∧ w.grownBy w2 v.ownBlock ∧
      (∀ k, Value.ownBlock (.slice A' (l.length + 1) c') = some k → v.ownBlock = some k ∨ w.heap.size ≤ k) := by
  have ha : (w.alloc (.cells #[.int q x] e)).heap[w.heap.size]? = some (.cells ([x].map (Value.int q)).toArray e (0, 0)) := heap_alloc_at w _
  obtain ⟨A', c', w2, hrun, ho, hg, hat⟩ := Own.appendW (P := P) (h.chg ((Chg.refl (fun _ => False) w).alloc (.cells #[.int q x] e)) (fun _ _ => id)) ty ht hinfo 1 (ReadsI.of_block ha) (by simpa using hm) hby
  refine ⟨A', c', w2, hrun, ho, (World.grownBy_alloc w _ _).trans hg, fun k hk => ?_⟩
  rcases hat with hat | hat
  · exact Or.inl (hat ▸ hk)
  · have := hat.symm.trans hk
    simp at this
    right
    omega

/-! ### slice expressions, by runs known beforehand -/
theorem ReadsI.sub {A A' : Option Addr} (h : ReadsI w q A l) (i j : Nat) (hj : j ≤ l.length) (hA : i < j → A' = A.map (·.add i)) : ReadsI w q A' ((l.take j).drop i) := by
  intro hne
  have hlt : i < j := by
    have := List.length_pos_iff.2 hne
    rw [List.length_drop, List.length_take] at this
    omega
  obtain ⟨a, rfl, hc⟩ := h (by rintro rfl; simp at hj; omega)
  refine ⟨a.add i, hA hlt, fun k hk => ?_⟩
  rw [List.length_drop, List.length_take] at hk
  rw [Go.Deep.add_add, hc (i + k) (by omega)]
  congr 2
  rw [List.getD_eq_getElem?_getD, List.getD_eq_getElem?_getD, List.getElem?_drop, List.getElem?_take, if_pos (by omega)]
/-- What a slice expression's value is. -/
def cutA (A : Option Addr) (i c : Nat) : Option Addr := if c = i then A else A.map (·.add i)
theorem cutA_sub {A : Option Addr} {c : Nat} (h : ReadsI w q A l) (i j : Nat) (hj : j ≤ l.length) (hc : l.length ≤ c) : ReadsI w q (cutA A i c) ((l.take j).drop i) :=
  h.sub i j hj (fun hlt => by unfold cutA; rw [if_neg (by omega)])
theorem cutA_block {A : Option Addr} {i c : Nat} {a : Addr} (h : cutA A i c = some a) : ∃ b, A = some b ∧ a.block = b.block := by
  unfold cutA at h
  split at h
  · exact ⟨a, h, rfl⟩
  · obtain ⟨b, hb, rfl⟩ := Option.map_eq_some_iff.1 h
    exact ⟨b, hb, block_add b i⟩
theorem run_cut {t e : TypeId} (ht : P.underlying t = some (.slice e)) (hs : (P.info? e).map (·.size) = some 1) (A : Option Addr) (n c : Nat) {ki kj : IntKind} (i j : Nat) (hij : i ≤ j) (hj : j ≤ c) (W : World) :
    (Instr.sliceAt t (.slice A n c) (some (.int ki i)) (some (.int kj j)) none).run P W = .ok (.slice (cutA A i c) (j - i) (c - i)) W := by
  obtain ⟨x, hx, hx2⟩ := Option.map_eq_some_iff.1 hs
  have hel : P.elem t = e := by simp [Program.elem, ht]
  have ht2 : P.underlying t = some (.slice (P.elem t)) := by rw [hel]; exact ht
  rw [run_sliceAt_slice W t _ _ _ _ ht2, run_slice_lh W t A n c ht2 ki kj i j (by omega) (by omega) (by omega), hel]
  simp [sizeOf, typeInfo, hx, hx2, Result.andThen, sliced, cutA]
theorem run_cutL {t e : TypeId} (ht : P.underlying t = some (.slice e)) (hs : (P.info? e).map (·.size) = some 1) (A : Option Addr) (n c : Nat) {ki : IntKind} (i : Nat) (hij : i ≤ n) (hj : n ≤ c) (W : World) :
    (Instr.sliceAt t (.slice A n c) (some (.int ki i)) none none).run P W = .ok (.slice (cutA A i c) (n - i) (c - i)) W := by
  obtain ⟨x, hx, hx2⟩ := Option.map_eq_some_iff.1 hs
  have hel : P.elem t = e := by simp [Program.elem, ht]
  have ht2 : P.underlying t = some (.slice (P.elem t)) := by rw [hel]; exact ht
  rw [run_sliceAt_slice W t _ _ _ _ ht2, run_slice_l W t A n c ht2 ki i (by omega) (by omega), hel]
  simp [sizeOf, typeInfo, hx, hx2, Result.andThen, sliced, cutA]
theorem run_cutH {t e : TypeId} (ht : P.underlying t = some (.slice e)) (hs : (P.info? e).map (·.size) = some 1) (A : Option Addr) (n c : Nat) {kj : IntKind} (j : Nat) (hj : j ≤ c) (W : World) :
    (Instr.sliceAt t (.slice A n c) none (some (.int kj j)) none).run P W = .ok (.slice (cutA A 0 c) j c) W := by
  obtain ⟨x, hx, hx2⟩ := Option.map_eq_some_iff.1 hs
  have hel : P.elem t = e := by simp [Program.elem, ht]
  have ht2 : P.underlying t = some (.slice (P.elem t)) := by rw [hel]; exact ht
  rw [run_sliceAt_slice W t _ _ _ _ ht2, run_slice_h W t A n c ht2 kj j (by omega) (by omega), hel]
  simp [sizeOf, typeInfo, hx, hx2, Result.andThen, sliced, cutA]
end
/-- A slice expression as a run known beforehand. -/
theorem wpList_slice_run {P : Program} {ops : Array Oper} {rest : List Oper} {o : Oper} {a : Act} {w : World} {Q : Exit → Act → World → Prop} (hgd : o.guard = none) (t : TypeId) (x : Operand) (lo hi : Option Operand)
    (ho : o.op = .slice t x lo hi none) (vx v' : Value) (vlo vhi : Option Value) (hx : a.eval x = vx) (hlo : lo.map a.eval = vlo) (hhi : hi.map a.eval = vhi) (hr : (Instr.sliceAt t vx vlo vhi none).run P w = .ok v' w)
    (h : wpList P ops Q rest (a.put o.dst v') w) : wpList P ops Q (o :: rest) a w := by
  refine wpList_plain hgd fun K hK => ?_
  unfold Oper.wp execOp
  subst hx hlo hhi
  simp only [ho, Sem.run_bind, Sem.run_pure, Result.andThen_ok, Option.map_none, hr]
  exact hK _ _ h

/-! ### a row of its own, in new memory -/
def New (e : TypeId) (q : IntKind) (w w' : World) (v : Value) (l : List Int) : Prop := Own w' e q v l ∧ Chg (fun _ => False) w w' ∧ ∀ k, v.ownBlock = some k → w.heap.size ≤ k
namespace New
variable {e : TypeId} {q : IntKind} {w w1 w2 : World} {v : Value} {l : List Int}
theorem nil (e : TypeId) (q : IntKind) (w : World) : New e q w w (.slice none 0 0) [] := ⟨Own.nil _ _ _, Chg.refl _ _, fun k hk => by cases hk⟩
theorem form (h : New e q w w1 v l) : ∃ A c, v = .slice A l.length c ∧ ReadsI w1 q A l := by
  obtain ⟨A, c, hv, hr, _⟩ := h.1.form
  exact ⟨A, c, hv, hr⟩
theorem form3 (h : New e q w w1 v l) : ∃ A n c, v = .slice A n c ∧ n = l.length ∧ ReadsI w1 q A l := by
  obtain ⟨A, c, hv, hr⟩ := h.form
  exact ⟨A, _, c, hv, rfl, hr⟩
theorem cap {A : Option Addr} {n c : Nat} (h : New e q w w1 (.slice A n c) l) : n = l.length ∧ l.length ≤ c := by
  rcases h.1.2 with ⟨hv, h0⟩ | ⟨g, cap, cur, hv, hbg, hgg, hnc, hcm, hcs, htake⟩
  · cases hv; exact ⟨h0.symm, by omega⟩
  · cases hv; exact ⟨rfl, hnc⟩
theorem chg (h : New e q w w1 v l) (hc : Chg (fun _ => False) w1 w2) : New e q w w2 v l := ⟨h.1.chg hc (fun _ _ => id), h.2.1.trans hc (fun _ _ => id), h.2.2⟩
theorem after (hc : Chg (fun _ => False) w w1) (h : New e q w1 w2 v l) : New e q w w2 v l := ⟨h.1, hc.trans h.2.1 (fun _ _ => id), fun k hk => Nat.le_trans hc.size (h.2.2 k hk)⟩
theorem push {P : Program} {t : TypeId} {A : Option Addr} {c L : Nat} {m : List Int} (h : New e q w w1 (.slice A L c) m) (ht : P.underlying t = some (.slice e)) {z : Int} {bytes : Nat} (hinfo : (P.info? e).map (fun i => (i.zero, i.size, i.bytes)) = some (some (.int q z), 1, bytes)) (hl : m.length = L) (x : Int) (hb : (L + 1 + (L + 1) / 4 + 192) * bytes ≤ 281474976710656) (hby : 1 ≤ bytes) :
    ∃ A2 c2 w2, (Builtin.append_ #[t, t] t #[.slice A L c, .slice (some ⟨w1.heap.size, 0, none⟩) 1 1]).run P (w1.alloc (.cells #[.int q x] e)) = .ok (.slice A2 (L + 1) c2) w2 ∧ New e q w w2 (.slice A2 (L + 1) c2) (m ++ [x]) := by
  subst hl
  obtain ⟨hO, hC, hF⟩ := h
  obtain ⟨A2, c2, w2, hap, ho2, hg2, hat2⟩ := hO.append1W (P := P) t ht hinfo x hb hby
  refine ⟨A2, c2, w2, hap, ho2, hC.grown hg2 (fun k hk hlt => by have := hF k hk; omega), fun k hk => ?_⟩
  rcases hat2 k hk with h' | h'
  · exact hF k h'
  · exact Nat.le_trans hC.size h'
theorem app {P : Program} {t : TypeId} {A B : Option Addr} {c cB L : Nat} {m x : List Int} (h : New e q w w1 (.slice A L c) m) (ht : P.underlying t = some (.slice e)) {z : Int} {bytes : Nat} (hinfo : (P.info? e).map (fun i => (i.zero, i.size, i.bytes)) = some (some (.int q z), 1, bytes)) (hl : m.length = L) (hr : ReadsI w1 q B x) (hb : (L + x.length + (L + x.length) / 4 + 192) * bytes ≤ 281474976710656) (hby : 1 ≤ bytes) :
    ∃ A2 c2 w2, (Builtin.append_ #[t, t] t #[.slice A L c, .slice B x.length cB]).run P w1 = .ok (.slice A2 (L + x.length) c2) w2 ∧ New e q w w2 (.slice A2 (L + x.length) c2) (m ++ x) := by
  subst hl
  obtain ⟨hO, hC, hF⟩ := h
  obtain ⟨A2, c2, w2, hap, ho2, hg2, hat2⟩ := hO.appendW (P := P) t ht hinfo cB hr hb hby
  refine ⟨A2, c2, w2, hap, ho2, hC.grown hg2 (fun k hk hlt => by have := hF k hk; omega), fun k hk => ?_⟩
  rcases hat2 with h' | h'
  · exact hF k (h' ▸ hk)
  · rw [h'] at hk; cases hk; exact hC.size
end New
end Go.Ps
