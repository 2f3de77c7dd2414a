/- Kit, fourth part: rows of elements of several cells that the call owns (f: an element's cells). -/
import Derived.Test.YthoagpagnldmeaaK2
set_option linter.unusedVariables false
set_option linter.unusedSimpArgs false
namespace Go.Ps
open Go.RowKit

/-- What an element's cells are: as many for each, each one cell. -/
structure Lay {α : Type} (f : α → List Value) (sz : Nat) : Prop where
  len : ∀ a, (f a).length = sz
  one : ∀ a, ∀ u ∈ f a, u.oneCell' = true
  pos : 0 < sz
section
variable {α : Type} {f : α → List Value} {sz : Nat}
theorem Lay.length (hf : Lay f sz) : ∀ (l : List α), (l.flatMap f).length = l.length * sz
  | [] => by simp
  | a :: l => by rw [List.flatMap_cons, List.length_append, hf.len, hf.length l, List.length_cons, Nat.add_mul]; omega
theorem Lay.ones (hf : Lay f sz) (l : List α) : ∀ u ∈ l.flatMap f, u.oneCell' = true := fun u hu => by
  obtain ⟨a, _, ha⟩ := List.mem_flatMap.1 hu
  exact hf.one a u ha
theorem Lay.get (hf : Lay f sz) (d : α) : ∀ (l : List α) (i j : Nat), i < l.length → j < sz → (l.flatMap f)[i * sz + j]? = (f (l.getD i d))[j]?
  | [], i, j, h, _ => by simp at h
  | a :: l, 0, j, _, hj => by
    rw [List.flatMap_cons, Nat.zero_mul, Nat.zero_add, List.getElem?_append_left (by rw [hf.len]; exact hj)]
    rfl
  | a :: l, i + 1, j, h, hj => by
    rw [List.flatMap_cons, show (i + 1) * sz + j = sz + (i * sz + j) by rw [Nat.add_mul]; omega]
    have e := hf.len a
    rw [List.getElem?_append_right (by omega), e, Nat.add_sub_cancel_left, hf.get d l i j (by simpa using h) hj]
    rfl
/-- A slice over such elements that can be read. -/
def ReadsF (w : World) (f : α → List Value) (A : Option Addr) (l : List α) : Prop := l ≠ [] → ∃ a, A = some a ∧ ∀ i u, (l.flatMap f)[i]? = some u → w.cell? (a.add i) = some u
def OwnF (w : World) (e : TypeId) (sz : Nat) (f : α → List Value) (v : Value) (l : List α) : Prop := w.ownsRow 0 e sz v l.length (l.flatMap f)
variable {P : Program} {w w' : World} {e t ty : TypeId} {v : Value} {l : List α}
theorem ReadsF.none (h : ReadsF w f Option.none l) : l = [] := by
  by_cases e : l = []
  · exact e
  · obtain ⟨a, ha, _⟩ := h e
    cases ha
theorem ReadsF.chg {A : Option Addr} (hf : Lay f sz) (h : ReadsF w f A l) {F : Nat → Prop} (hc : Chg F w w') (hF : ∀ a, A = some a → ¬ F a.block) : ReadsF w' f A l := by
  intro hne
  obtain ⟨a, ha, hx⟩ := h hne
  refine ⟨a, ha, fun i u hu => ?_⟩
  exact chg_cell hc (hx i u hu) (by rw [block_add]; exact hF a ha)
theorem ReadsF.of_block {g : Nat} {fr : Nat × Nat} (h : w.heap[g]? = some (.cells (l.flatMap f).toArray t fr)) : ReadsF w f (some ⟨g, 0, Option.none⟩) l := by
  intro _
  refine ⟨_, rfl, fun i u hu => ?_⟩
  rw [add_zero]
  exact cell_of h i (by simpa using hu)
namespace OwnF
theorem nil (w : World) (e : TypeId) (sz : Nat) (f : α → List Value) : OwnF w e sz f (.slice none 0 0) [] := World.ownsRow_nil _ _ _ _
theorem lt (h : OwnF w e sz f v l) {k : Nat} (hk : v.ownBlock = some k) : k < w.heap.size := (World.ownsRow.lt h k hk).2
theorem chg (h : OwnF w e sz f v l) {F : Nat → Prop} (hc : Chg F w w') (hF : ∀ k, v.ownBlock = some k → ¬ F k) : OwnF w' e sz f v l := by
  refine ⟨h.1, ?_⟩
  rcases h.2 with h2 | ⟨g, cap, cur, rfl, hbg, hg, hnc, hcm, hcs, htake⟩
  · exact .inl h2
  · exact .inr ⟨g, cap, cur, rfl, hbg, (hc.block g (heap_lt hg) (hF g rfl)).trans hg, hnc, hcm, hcs, htake⟩
theorem form (h : OwnF w e sz f v l) : ∃ A c, v = .slice A l.length c ∧ l.length ≤ c ∧ ReadsF w f A l ∧ (∀ a, A = some a → v.ownBlock = some a.block) ∧ (A = Option.none → v.ownBlock = Option.none ∧ l = []) := by
  rcases h.2 with ⟨rfl, h0⟩ | ⟨g, cap, cur, rfl, hbg, hg, hnc, hcm, hcs, htake⟩
  · have := List.eq_nil_of_length_eq_zero h0
    subst this
    exact ⟨Option.none, 0, rfl, Nat.le_refl _, fun h => absurd rfl h, (fun a ha => by cases ha), fun _ => ⟨rfl, rfl⟩⟩
  · refine ⟨some ⟨g, 0, Option.none⟩, cap, rfl, hnc, fun _ => ⟨_, rfl, fun i u hu => ?_⟩, (fun a ha => by cases ha; rfl), fun h => by cases h⟩
    rw [add_zero]
    refine cell_of hg i ?_
    have h2 : (cur.toList.take (l.length * sz))[i]? = some u := by rw [htake]; exact hu
    rw [List.getElem?_take] at h2
    split at h2
    · rw [Array.getElem?_toList] at h2
      exact h2
    · cases h2
/-- Where there is an element: the block, and its cells. -/
theorem at_ (hf : Lay f sz) (d : α) (h : OwnF w e sz f v l) (hne : 0 < l.length) : ∃ g c cur, v = .slice (some ⟨g, 0, Option.none⟩) l.length c ∧ v.ownBlock = some g ∧ w.heap[g]? = some (.cells cur e (0, 0)) ∧ l.length ≤ c ∧ cur.size = c * sz ∧ ∀ i j, i < l.length → j < sz → cur[i * sz + j]? = (f (l.getD i d))[j]? := by
  rcases h.2 with ⟨rfl, h0⟩ | ⟨g, cap, cur, rfl, hbg, hg, hnc, hcm, hcs, htake⟩
  · omega
  · refine ⟨g, cap, cur, rfl, rfl, hg, hnc, hcs, fun i j hi hj => ?_⟩
    rw [← hf.get d l i j hi hj, ← htake, List.getElem?_take, if_pos, Array.getElem?_toList]
    have : (i + 1) * sz ≤ l.length * sz := Nat.mul_le_mul_right _ hi
    rw [Nat.add_mul] at this
    omega
theorem appendF (hf : Lay f sz) (h : OwnF w e sz f v l) (ty : TypeId) (ht : P.underlying t = some (.slice e)) {z : Value} {bytes : Nat} (hinfo : (P.info? e).map (fun i => (i.zero, i.size, i.bytes)) = some (some z, sz, bytes)) (hzs : z.cells.size = sz) {A : Option Addr} {m : List α} (c : Nat) (hr : ReadsF w f A m)
    (hm : ((l.length + m.length) + (l.length + m.length) / 4 + 192) * bytes ≤ 281474976710656) (hby : 1 ≤ bytes) :
    ∃ A' c' w2, (Builtin.append_ #[t, t] ty #[v, .slice A m.length c]).run P w = .ok (.slice A' (l.length + m.length) c') w2 ∧ OwnF w2 e sz f (.slice A' (l.length + m.length) c') (l ++ m) ∧ w.grownBy w2 v.ownBlock ∧
      (Value.ownBlock (.slice A' (l.length + m.length) c') = v.ownBlock ∨ Value.ownBlock (.slice A' (l.length + m.length) c') = some w.heap.size) := by
  obtain ⟨i, hi, hzz⟩ := Option.map_eq_some_iff.1 hinfo
  simp only [Prod.mk.injEq] at hzz
  obtain ⟨hz, hs, hb⟩ := hzz
  cases A with
  | none =>
    obtain rfl := hr.none
    obtain ⟨A', c', hv, _, _, _, _⟩ := h.form
    refine ⟨A', c', w, ?_, ?_, ⟨rfl, rfl, rfl, Nat.le_refl _, fun _ _ _ => rfl⟩, Or.inl ?_⟩
    · rw [List.length_nil, run_append_nothing i ht hi h c, Nat.add_zero, ← hv]
    · rw [List.length_nil, Nat.add_zero, List.append_nil, ← hv]; exact h
    · rw [List.length_nil, Nat.add_zero, hv]
  | some a =>
    have hcells : ∀ j u, (m.flatMap f)[j]? = some u → w.cell? (a.add j) = some u := by
      intro j u hu
      have hne : m ≠ [] := by rintro rfl; simp at hu
      obtain ⟨a', ha, hx⟩ := hr hne
      cases ha
      exact hx j u hu
    have h1 := hf.ones m
    have hml := hf.length m
    have hll := hf.length l
    have hsm : (l.length + m.length) ≤ 281474976710656 := by
      have := Nat.le_mul_of_pos_right ((l.length + m.length) + (l.length + m.length) / 4 + 192) hby
      omega
    obtain ⟨v', w2, hrun, ho, hg, hnil⟩ := run_append_own_wide (P := P) w 0 t ty e i z sz bytes ht hi hz hs hb hzs hf.pos v l.length (l.flatMap f) h a m.length c (m.flatMap f) hml hcells h1 (by unfold maxLen; omega) hm (Nat.zero_le _)
    have ho' : OwnF w2 e sz f v' (l ++ m) := by
      unfold OwnF
      rw [List.length_append, List.flatMap_append]
      exact ho
    obtain ⟨A', c', hv, _, _, _, _⟩ := ho'.form
    rw [List.length_append] at hv
    subst hv
    refine ⟨A', c', w2, hrun, ho', hg, ?_⟩
    rcases h.2 with ⟨rfl, h0⟩ | ⟨g, cap, cur, rfl, hbg, hgg, hnc, hcm, hcs, htake⟩
    · by_cases hm0 : m.length = 0
      · left
        rw [hnil.2 ⟨rfl, hm0⟩]
      · have hr2 := run_append_nil (P := P) w t ty e i z ht hi hz a m.length c (m.flatMap f) (by rw [hs]; exact hml) hcells (by omega) (by omega) (by rw [hb]; exact Nat.le_trans (Nat.mul_le_mul_right _ (by omega)) hm)
        rw [h0, hr2] at hrun
        simp only [Result.ok.injEq] at hrun
        right
        rw [h0, ← hrun.1]
        rfl
    · by_cases hroom : l.length + m.length ≤ cap
      · have hr2 := run_append_room (P := P) w t ty e i ht hi g l.length cap cur hgg a m.length c (m.flatMap f) (by rw [hs]; exact hml) hcells h1 hroom (by
          rw [hs, hml, hcs, ← Nat.add_mul]
          exact Nat.mul_le_mul_right _ hroom)
        rw [hr2] at hrun
        simp only [Result.ok.injEq] at hrun
        left
        rw [← hrun.1]
        rfl
      · have hr2 := run_append_grow (P := P) w t ty e i z ht hi hz ⟨g, 0, Option.none⟩ l.length cap (l.flatMap f) (by rw [hs]; exact hll) (World.ownsRow.cells (g := g) h rfl) a m.length c (m.flatMap f) (by rw [hs]; exact hml) hcells (by omega) (by omega) (by rw [hb]; exact growslice_fits_wide (by omega) hm)
        rw [hr2] at hrun
        simp only [Result.ok.injEq] at hrun
        right
        rw [← hrun.1]
        rfl
/-- append(v, x): the element lies in a block of its own first. -/
theorem append1 (hf : Lay f sz) (h : OwnF w e sz f v l) (ty : TypeId) (ht : P.underlying t = some (.slice e)) {z : Value} {bytes : Nat} (hinfo : (P.info? e).map (fun i => (i.zero, i.size, i.bytes)) = some (some z, sz, bytes)) (hzs : z.cells.size = sz) (x : α)
    (hm : ((l.length + 1) + (l.length + 1) / 4 + 192) * bytes ≤ 281474976710656) (hby : 1 ≤ bytes) :
    ∃ A' c' w2, (Builtin.append_ #[t, t] ty #[v, .slice (some ⟨w.heap.size, 0, Option.none⟩) 1 1]).run P (w.alloc (.cells (f x).toArray e)) = .ok (.slice A' (l.length + 1) c') w2 ∧ OwnF w2 e sz f (.slice A' (l.length + 1) c') (l ++ [x]) ∧ w.grownBy w2 v.ownBlock ∧
      (∀ k, Value.ownBlock (.slice A' (l.length + 1) c') = some k → v.ownBlock = some k ∨ w.heap.size ≤ k) := by
  have ha : (w.alloc (.cells (f x).toArray e)).heap[w.heap.size]? = some (.cells ([x].flatMap f).toArray e (0, 0)) := by
    rw [heap_alloc_at w _]
    simp
  obtain ⟨A', c', w2, hrun, ho, hg, hat⟩ := OwnF.appendF (P := P) hf (h.chg ((Chg.refl (fun _ => False) w).alloc (.cells (f x).toArray e)) (fun _ _ => id)) ty ht hinfo hzs 1 (ReadsF.of_block ha) (by simpa using hm) hby
  refine ⟨A', c', w2, hrun, ho, (World.grownBy_alloc w _ _).trans hg, fun k hk => ?_⟩
  rcases hat with hat | hat
  · exact Or.inl (hat ▸ hk)
  · have := hat.symm.trans hk
    simp at this
    right
    omega
/-- An element's cells are stored (vs: what the block holds then). -/
theorem set (hf : Lay f sz) (h : OwnF w e sz f v l) {g i j : Nat} {d : α} (hv : v.ownBlock = some g) (hi : i < l.length) (hj : j < sz) (x : α) (u : Value) (hx : (f (l.getD i d)).set j u = f x) : OwnF (w.setCell ⟨g, i * sz + j, Option.none⟩ u) e sz f v (l.set i x) := by
  rcases h.2 with ⟨rfl, h0⟩ | ⟨g', cap, cur, rfl, hbg, hg, hnc, hcm, hcs, htake⟩
  · omega
  · cases hv
    refine ⟨hf.length _, .inr ⟨g', cap, cur.setIfInBounds (i * sz + j) u, by simp, hbg, heap_setCell hg _ _, by simpa using hnc, hcm, by simpa using hcs, ?_⟩⟩
    apply List.ext_getElem?
    intro k
    rw [List.length_set, Array.toList_setIfInBounds, List.getElem?_take]
    by_cases hk : k < l.length * sz
    · rw [if_pos hk]
      have hkd : k = (k / sz) * sz + k % sz := by have := Nat.div_add_mod k sz; rw [Nat.mul_comm] at this; omega
      have hq : k / sz < l.length := Nat.div_lt_of_lt_mul (by rw [Nat.mul_comm]; exact hk)
      have hr : k % sz < sz := Nat.mod_lt _ hf.pos
      have h1 : ((l.set i x).flatMap f)[k]? = (f ((l.set i x).getD (k / sz) d))[k % sz]? := by
        have := hf.get d (l.set i x) (k / sz) (k % sz) (by simpa using hq) hr
        rw [← hkd] at this
        exact this
      have h2 : cur.toList[k]? = (f (l.getD (k / sz) d))[k % sz]? := by
        have h3 := hf.get d l (k / sz) (k % sz) hq hr
        rw [← hkd] at h3
        rw [← h3, ← htake, List.getElem?_take, if_pos hk]
      rw [h1, List.getElem?_set]
      by_cases he : i * sz + j = k
      · rw [if_pos he]
        have hqi : k / sz = i := by
          rw [← he, Nat.mul_comm, Nat.mul_add_div hf.pos, Nat.div_eq_of_lt hj, Nat.add_zero]
        have hrj : k % sz = j := by
          rw [← he, Nat.mul_comm, Nat.mul_add_mod, Nat.mod_eq_of_lt hj]
        rw [hqi, hrj]
        have hlen : i * sz + j < cur.toList.length := by
          rw [Array.length_toList, hcs, he]
          exact Nat.lt_of_lt_of_le hk (Nat.mul_le_mul_right _ hnc)
        have hgx : (l.set i x).getD i d = x := by simp [List.getD_eq_getElem?_getD, hi]
        rw [if_pos hlen, hgx, ← hx]
        have : j < ((f (l.getD i d)).set j u).length := by rw [List.length_set, hf.len]; exact hj
        rw [List.getElem?_eq_getElem this]
        simp
      · rw [if_neg he, h2]
        by_cases hqi : k / sz = i
        · have hrj : ¬ k % sz = j := fun e => he (by rw [← e, ← hqi]; exact hkd.symm)
          rw [hqi]
          have hgx : (l.set i x).getD i d = x := by simp [List.getD_eq_getElem?_getD, hi]
          rw [hgx, ← hx, List.getElem?_set, if_neg (fun e => hrj e.symm)]
        · have hgx : (l.set i x).getD (k / sz) d = l.getD (k / sz) d := by
            simp only [List.getD_eq_getElem?_getD]
            rw [List.getElem?_set_ne (fun e => hqi e.symm)]
          rw [hgx]
    · rw [if_neg hk]
      symm
      rw [List.getElem?_eq_none_iff, hf.length, List.length_set]
      omega
end OwnF
end
end Go.Ps
