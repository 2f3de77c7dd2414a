/- The voters and the document's, side by side: plainly. The voters and the document's, side by side: each call. -/
import Derived.Test.YthoagpagnldmeaaWl
import Derived.Test.YthoagpagnldmeaaWt
set_option linter.unusedVariables false
set_option linter.unusedSimpArgs false
namespace Go.Proofs.Ythoagpagnldmeaa.V
open Go.RowKit Go.Ps
def toD (p : Vo) : DV := (p.id, p.stake, (p.bag : Int))
def docOf (rows : List (List Vo)) : List DV := (ord rows).map toD
theorem ord_at {rows : List (List Vo)} (hb : ∀ (i : Nat) (l : List Vo), rows[i]? = some l → ∀ p ∈ l, p.bag = i) {i : Nat} {l : List Vo} (h : rows[i]? = some l) :
    ∃ X Y, ord rows = X ++ (l ++ Y) ∧ (∀ l', ord (rows.set i l') = X ++ (l' ++ Y)) ∧ (∀ p ∈ X, i < p.bag) ∧ (∀ p ∈ Y, p.bag < i) := by
  obtain ⟨hlt, he⟩ := List.getElem?_eq_some_iff.1 h
  have hr : rows = rows.take i ++ l :: rows.drop (i + 1) := by
    rw [← he, ← List.drop_eq_getElem_cons hlt, List.take_append_drop]
  have hti : (rows.take i).length = i := by rw [List.length_take]; omega
  refine ⟨ord (rows.drop (i + 1)), ord (rows.take i), ?_, fun l' => ?_, fun p hp => ?_, (ord_sorted hb i (by omega)).2⟩
  · conv => lhs; rw [hr]
    simp [ord]
  · have : rows.set i l' = rows.take i ++ l' :: rows.drop (i + 1) := by rw [List.set_eq_take_append_cons_drop, if_pos hlt]
    rw [this]
    simp [ord]
  · obtain ⟨m, hm, hpm⟩ := List.mem_flatten.1 hp
    rw [List.mem_reverse] at hm
    obtain ⟨j, hj, rfl⟩ := List.mem_iff_getElem.1 hm
    rw [List.getElem_drop] at hpm
    rw [List.length_drop] at hj
    have := hb (i + 1 + j) _ (List.getElem?_eq_getElem (by omega)) p hpm
    omega
theorem ins_doc {rows : List (List Vo)} (hb : ∀ (i : Nat) (l : List Vo), rows[i]? = some l → ∀ p ∈ l, p.bag = i) {p : Vo} {l : List Vo} (h : rows[p.bag]? = some l) : docOf (rows.set p.bag (l ++ [p])) = insD (docOf rows) (toD p) := by
  obtain ⟨X, Y, h1, h2, h3, h4⟩ := ord_at hb h
  unfold docOf
  rw [h1, h2]
  have hl := hb _ _ h
  obtain ⟨D1, hD1⟩ : ∃ D1, D1 = (X ++ l).map toD := ⟨_, rfl⟩
  obtain ⟨D2, hD2⟩ : ∃ D2, D2 = Y.map toD := ⟨_, rfl⟩
  have e1 : (X ++ (l ++ Y)).map toD = D1 ++ D2 := by rw [hD1, hD2]; simp
  have e2 : (X ++ (l ++ [p] ++ Y)).map toD = D1 ++ toD p :: D2 := by rw [hD1, hD2]; simp
  have hk : lastK (D1 ++ D2) (toD p).2.2 = D1.length := by
    refine lastK_eq (by simp) (fun t ht => ?_) (fun ht => ?_)
    · rw [List.getD_eq_getElem?_getD, List.getElem?_append_left ht, List.getElem?_eq_getElem ht]
      obtain ⟨q, hq, e⟩ := List.mem_map.1 (show D1[t] ∈ (X ++ l).map toD by rw [← hD1]; exact List.getElem_mem ht)
      show (p.bag : Int) ≤ D1[t].2.2
      rw [← e]
      show (p.bag : Int) ≤ (q.bag : Int)
      rcases List.mem_append.1 hq with hq | hq
      · have := h3 q hq; omega
      · have := hl q hq; omega
    · rw [List.length_append] at ht
      rw [List.getD_eq_getElem?_getD, List.getElem?_append_right (Nat.le_refl _), Nat.sub_self, List.getElem?_eq_getElem (by omega)]
      obtain ⟨q, hq, e⟩ := List.mem_map.1 (show D2[0]'(by omega) ∈ Y.map toD by rw [← hD2]; exact List.getElem_mem _)
      show (D2[0]'(by omega)).2.2 < (p.bag : Int)
      rw [← e]
      show (q.bag : Int) < (p.bag : Int)
      have := h4 q hq
      omega
  rw [e1, e2]
  unfold insD
  rw [hk, List.take_left, List.drop_left]
theorem cut_doc {rows : List (List Vo)} (hb : ∀ (i : Nat) (l : List Vo), rows[i]? = some l → ∀ p ∈ l, p.bag = i) {p : Vo} {A B : List Vo} (h : rows[p.bag]? = some (A ++ p :: B)) :
    ∃ P S, docOf rows = P ++ toD p :: S ∧ docOf (rows.set p.bag (A ++ B)) = P ++ S ∧ ∀ q, docOf (rows.set p.bag (A ++ q :: B)) = P ++ toD q :: S := by
  obtain ⟨X, Y, h1, h2, h3, h4⟩ := ord_at hb h
  refine ⟨(X ++ A).map toD, (B ++ Y).map toD, ?_, ?_, fun q => ?_⟩
  · unfold docOf; rw [h1]; simp
  · unfold docOf; rw [h2]; simp
  · unfold docOf; rw [h2]; simp
theorem fro_doc {rows : List (List Vo)} (hb : ∀ (i : Nat) (l : List Vo), rows[i]? = some l → ∀ p ∈ l, p.bag = i) {p q : Vo} {A B C D : List Vo} (h : rows[p.bag]? = some (A ++ p :: B)) (hAB : A ++ B = C ++ q :: D) :
    ∃ P S P' S', docOf rows = P ++ toD p :: S ∧ P ++ S = P' ++ toD q :: S' ∧ docOf (rows.set p.bag (C ++ p :: q :: D)) = P' ++ toD p :: toD q :: S' := by
  obtain ⟨X, Y, h1, h2, h3, h4⟩ := ord_at hb h
  refine ⟨(X ++ A).map toD, (B ++ Y).map toD, (X ++ C).map toD, (D ++ Y).map toD, ?_, ?_, ?_⟩
  · unfold docOf; rw [h1]; simp
  · have : X ++ A ++ (B ++ Y) = X ++ (C ++ q :: D) ++ Y := by rw [← hAB]; simp
    rw [← List.map_append, this]
    simp
  · unfold docOf; rw [h2]; simp
theorem doc_ids (rows : List (List Vo)) : (docOf rows).map (·.1) = (ord rows).map (·.id) := by unfold docOf; rw [List.map_map]; rfl
theorem doc_nd {rows : List (List Vo)} (h : (rows.flatten.map (·.id)).Nodup) : ((docOf rows).map (·.1)).Nodup := by
  rw [doc_ids]
  exact (((ord_perm rows).map _).nodup_iff).2 h
theorem doc_len (rows : List (List Vo)) : (docOf rows).length = rows.flatten.length := by unfold docOf; rw [List.length_map, ord_len]
theorem doc_no {rows : List (List Vo)} {k : Int} (h : findV rows k = none) : ∀ x ∈ docOf rows, x.1 ≠ k := by
  intro x hx
  obtain ⟨p, hp, rfl⟩ := List.mem_map.1 hx
  exact findV_none h p ((ord_perm rows).mem_iff.1 hp)
theorem doc_yes {rows : List (List Vo)} {k : Int} {p : Vo} (h : findV rows k = some p) : toD p ∈ docOf rows ∧ p.id = k := by
  obtain ⟨h1, h2⟩ := findV_some h
  exact ⟨List.mem_map.2 ⟨p, (ord_perm rows).mem_iff.2 h1, rfl⟩, h2⟩
/-- Of a split: nothing of that number stands ahead. -/
theorem nd_ahead {P S : List DV} {m : DV} (h : ((P ++ m :: S).map (·.1)).Nodup) : ∀ x ∈ P, x.1 ≠ m.1 := by
  intro x hx e
  rw [List.map_append, List.map_cons, List.nodup_append] at h
  exact h.2.2 x.1 (List.mem_map.2 ⟨x, hx, rfl⟩) m.1 (by simp) e
/-- The voters and the document's, after at most k calls. -/
structure SV (w0 : World) (g r : Nat) (tT : Value) (T : List Int) (k : Nat) (bm : Nat) (tv rv : Value) (rows : List (List Vo)) (N : Int) (col : Nat → Nat) (v : Value) (W : World) : Prop where
  vm : VM W g bm tv rv T rows N col
  rf : RV W r tT v (docOf rows)
  cr : col r = 0
  cv : ∀ j, v.ownBlock = some j → col j = 0
  rn : w0.heap.size ≤ r
  vn : ∀ j, v.ownBlock = some j → w0.heap.size ≤ j
  co : ∀ j, j < w0.heap.size → col j = 0
  bl : Chg (fun _ => False) w0 W
  n1 : N ≤ k
  n2 : rows.flatten.length ≤ k
section
variable {w0 W W1 W2 : World} {g r : Nat} {tT : Value} {T : List Int} {k : Nat} {bm : Nat} {tv rv : Value} {rows : List (List Vo)} {N : Int} {col : Nat → Nat} {v : Value}
theorem SV.keep (h : SV w0 g r tT T k bm tv rv rows N col v W) (hC : Chg (fun _ => False) W W1) : SV w0 g r tT T k bm tv rv rows N col v W1 :=
  ⟨h.vm.keep hC (fun _ _ f => f.elim), h.rf.chg hC (fun f => f) (fun _ _ f => f), h.cr, h.cv, h.rn, h.vn, h.co, h.bl.trans hC (fun _ _ f => f), h.n1, h.n2⟩
/-- The voters' call is done, the document's not yet. -/
theorem SV.mid (h : SV w0 g r tT T k bm tv rv rows N col v W) {col' : Nat → Nat} (hS : Stp col W col' W1) : RV W1 r tT v (docOf rows) := h.rf.chg hS.1 (fun f => f h.cr) (fun j hj f => f (h.cv j hj))
theorem SV.step (h : SV w0 g r tT T k bm tv rv rows N col v W) {rows' : List (List Vo)} {N' : Int} {col' : Nat → Nat} (hS : Stp col W col' W1) (hv : VM W1 g bm tv rv T rows' N' col') (hn : N' ≤ (k + 1 : Nat)) (hl : rows'.flatten.length ≤ k + 1) (hR : RP r tT v (docOf rows') W1 W2) :
    ∃ v', SV w0 g r tT T (k + 1) bm tv rv rows' N' col' v' W2 := by
  obtain ⟨v', h1, h2, h3⟩ := hR
  have hrl := heap_lt h.rf.cell
  have hcr : col' r = 0 := (hS.2 r hrl).trans h.cr
  refine ⟨v', ⟨hv.keep h2 (fun j _ e => by rw [e]; exact hcr), h1, hcr, fun j hj => ?_, h.rn, fun j hj => ?_, fun j hj => ?_, ?_, hn, hl⟩⟩
  · rcases h3 j hj with h4 | h4
    · rw [hS.2 j (h.rf.own.lt h4)]; exact h.cv j h4
    · by_cases hc : col' j = 0
      · exact hc
      · have := hv.top hc; omega
  · rcases h3 j hj with h4 | h4
    · exact h.vn j h4
    · exact Nat.le_trans (Nat.le_trans h.bl.size hS.1.size) h4
  · rw [hS.2 j (Nat.lt_of_lt_of_le hj h.bl.size)]; exact h.co j hj
  · refine (h.bl.trans hS.1 (fun j hj f => f (h.co j hj))).trans h2 (fun j hj e => ?_)
    have := h.rn
    omega
/-- Some of it. -/
def SE (w0 : World) (g r : Nat) (tT : Value) (T : List Int) (k : Nat) (W : World) : Prop := ∃ bm tv rv rows N col v, SV w0 g r tT T k bm tv rv rows N col v W
end
end Go.Proofs.Ythoagpagnldmeaa.V
namespace Go.Proofs.Ythoagpagnldmeaa.V
open Go.RowKit Go.Ps
/-- Two calls, one after the other, with the same answer; x: a block of the caller's. -/
def Pair (f1 f2 : FuncId) (a1 a2 : Array Value) (w0 : World) (g r : Nat) (tT : Value) (T : List Int) (k x : Nat) (W : World) : Prop :=
  ∃ (code : Int) (M : World → Prop), Calls Try.prog f1 a1 W (fun e W1 => e = .returned (.int .i64 code) ∧ M W1 ∧ W1.heap[x]? = W.heap[x]?) ∧
    ∀ W1, M W1 → Calls Try.prog f2 a2 W1 (fun e W2 => e = .returned (.int .i64 code) ∧ SE w0 g r tT T (k + 1) W2 ∧ W2.heap[x]? = W1.heap[x]?)
section
variable {w0 W : World} {g r : Nat} {tT : Value} {T : List Int} {k x : Nat} {bm : Nat} {tv rv : Value} {rows : List (List Vo)} {N : Int} {col : Nat → Nat} {v : Value} {A0 : Option Addr} {n c0 : Nat}
theorem SV.more (h : SV w0 g r tT T k bm tv rv rows N col v W) : SE w0 g r tT T (k + 1) W := ⟨bm, tv, rv, rows, N, col, v, h.vm, h.rf, h.cr, h.cv, h.rn, h.vn, h.co, h.bl, by have := h.n1; omega, by have := h.n2; omega⟩
theorem SV.dlen (h : SV w0 g r tT T k bm tv rv rows N col v W) (hk : k ≤ 999) : (docOf rows).length ≤ 1000 := by rw [doc_len]; have := h.n2; omega
/-- The document's call, behind the voters' step. -/
theorem SV.fin (h : SV w0 g r tT T k bm tv rv rows N col v W) (hx : col x = 0) (hxr : x ≠ r) {W1 : World} {rows' : List (List Vo)} {N' : Int} {col' : Nat → Nat} (hS : Stp col W col' W1) (hv : VM W1 g bm tv rv T rows' N' col') (hn : N' ≤ (k + 1 : Nat)) (hl : rows'.flatten.length ≤ k + 1) (hxl : x < W.heap.size)
    {f2 : FuncId} {a2 : Array Value} {code : Int} (hc : Calls Try.prog f2 a2 W1 fun e W2 => e = .returned (.int .i64 code) ∧ RP r tT v (docOf rows') W1 W2) :
    Calls Try.prog f2 a2 W1 (fun e W2 => e = .returned (.int .i64 code) ∧ SE w0 g r tT T (k + 1) W2 ∧ W2.heap[x]? = W1.heap[x]?) := by
  refine hc.mono ?_
  rintro e W2 ⟨rfl, hR⟩
  obtain ⟨v', h'⟩ := h.step hS hv hn hl hR
  obtain ⟨_, _, hC, _⟩ := hR
  exact ⟨rfl, ⟨_, _, _, _, _, _, _, h'⟩, hC.block x (Nat.lt_of_lt_of_le hxl hS.1.size) hxr⟩
/-- Nothing changes on either side. -/
theorem SV.idle (h : SV w0 g r tT T k bm tv rv rows N col v W) (hxl : x < W.heap.size) {f1 f2 : FuncId} {a1 a2 : Array Value} {code : Int} (h1 : Calls Try.prog f1 a1 W fun e W1 => e = .returned (.int .i64 code) ∧ Chg (fun _ => False) W W1)
    (h2 : ∀ W1, RV W1 r tT v (docOf rows) → Chg (fun _ => False) W W1 → Calls Try.prog f2 a2 W1 fun e W2 => e = .returned (.int .i64 code) ∧ Chg (fun _ => False) W1 W2) : Pair f1 f2 a1 a2 w0 g r tT T k x W := by
  refine ⟨code, fun W1 => Chg (fun _ => False) W W1, h1.mono ?_, fun W1 hC => ?_⟩
  · rintro e W1 ⟨rfl, hC⟩
    exact ⟨rfl, hC, hC.block x hxl (fun f => f)⟩
  · have hs := h.keep hC
    refine (h2 W1 hs.rf hC).mono ?_
    rintro e W2 ⟨rfl, hC2⟩
    exact ⟨rfl, (hs.keep hC2).more, hC2.block x (Nat.lt_of_lt_of_le hxl hC.size) (fun f => f)⟩
theorem calm_eq {f : FuncId} {a : Array Value} {W : World} {c : Int} (h : Calls Try.prog f a W fun e W' => e = .returned (.int .i64 c) ∧ W' = W) : Calls Try.prog f a W fun e W' => e = .returned (.int .i64 c) ∧ Chg (fun _ => False) W W' :=
  h.mono (by rintro e W' ⟨rfl, rfl⟩; exact ⟨rfl, Chg.refl _ _⟩)
theorem pair_ins (id st : Int) (h : SV w0 g r tT T k bm tv rv rows N col v W) (hk : k ≤ 998) (hx : col x = 0) (hxr : x ≠ r) (hxl : x < W.heap.size) (htT : tT = .slice A0 n c0) (hnT : n = T.length) (hrT : ReadsI w0 .u64 A0 T) :
    Pair 35 39 #[.pointer (some ⟨g, 0, none⟩), .int .i64 id, .int .u64 st] #[.pointer (some ⟨r, 0, none⟩), .int .i64 id, .int .u64 st] w0 g r tT T k x W := by
  cases hf : findV rows id with
  | some p =>
    refine h.idle hxl (calm_eq (insert_old st h.vm hf)) (fun W1 hR hC => ?_)
    obtain ⟨h1, h2⟩ := doc_yes hf
    exact calm_eq (rins_old st hR (h.dlen (by omega)) ⟨_, h1, h2⟩)
  | none =>
    refine ⟨0, fun W1 => InsPost g bm tv rv T rows N col id st W W1, (insert_any st h.vm hf (by have := h.n1; omega)).mono ?_, fun W1 hp => ?_⟩
    · rintro e W1 ⟨rfl, hp⟩
      refine ⟨rfl, hp, ?_⟩
      obtain ⟨p, l, col', e1, e2, e3, e4, e5, e6⟩ := hp
      exact e6.1.block x hxl (fun f => f hx)
    · obtain ⟨p, l, col', e1, e2, e3, e4, e5, e6⟩ := hp
      refine h.fin hx hxr e6 e5 (by have := h.n1; omega) (by rw [(set_perm e1).length_eq, List.length_cons]; have := h.n2; omega) hxl ?_
      rw [ins_doc h.vm.bags e1, show toD p = (id, st, ((bagOf T st : Nat) : Int)) by unfold toD; rw [e2, e3, e4]]
      exact rins_new st (h.mid e6) htT hnT (hrT.chg (h.bl.trans e6.1 (fun j hj f => f (h.co j hj))) (fun _ _ f => f)) h.vm.ris h.vm.tl (h.dlen (by omega)) (doc_no hf)
theorem pair_rem (id : Int) (h : SV w0 g r tT T k bm tv rv rows N col v W) (hk : k ≤ 998) (hx : col x = 0) (hxr : x ≠ r) (hxl : x < W.heap.size) :
    Pair 40 41 #[.pointer (some ⟨g, 0, none⟩), .int .i64 id] #[.pointer (some ⟨r, 0, none⟩), .int .i64 id] w0 g r tT T k x W := by
  cases hf : findV rows id with
  | none => exact h.idle hxl (calm_eq (remove_no h.vm hf)) (fun W1 hR hC => calm_eq (rrem_no hR (h.dlen (by omega)) (doc_no hf)))
  | some p =>
    refine ⟨0, fun W1 => RemPost g bm tv rv T rows N col p W W1, (remove_any h.vm hf).mono ?_, fun W1 hp => ?_⟩
    · rintro e W1 ⟨rfl, hp⟩
      refine ⟨rfl, hp, ?_⟩
      obtain ⟨A, B, col', e1, e2, e3⟩ := hp
      exact e3.1.block x hxl (fun f => f hx)
    · obtain ⟨A, B, col', e1, e2, e3⟩ := hp
      obtain ⟨rest, p1, p2⟩ := flat_at e1
      have l1 := p1.length_eq
      have l2 := h.n2
      obtain ⟨P, S, d1, d2, -⟩ := cut_doc h.vm.bags e1
      refine h.fin hx hxr e3 e2 (by have := h.n1; omega) (by
        rw [(p2 _).length_eq]
        simp only [List.length_append, List.length_cons] at l1 ⊢
        omega) hxl ?_
      rw [d2]
      have hR := h.mid e3
      rw [d1] at hR
      have hnd := doc_nd h.vm.ids
      rw [d1] at hnd
      have hlen := h.dlen (by omega)
      rw [d1] at hlen
      have hid : (toD p).1 = id := (findV_some hf).2
      exact rrem_yes hR hlen (by rw [← hid]; exact nd_ahead hnd) hid
theorem pair_upd (id st : Int) (h : SV w0 g r tT T k bm tv rv rows N col v W) (hk : k ≤ 998) (hx : col x = 0) (hxr : x ≠ r) (hxl : x < W.heap.size) :
    Pair 42 43 #[.pointer (some ⟨g, 0, none⟩), .int .i64 id, .int .u64 st] #[.pointer (some ⟨r, 0, none⟩), .int .i64 id, .int .u64 st] w0 g r tT T k x W := by
  cases hf : findV rows id with
  | none => exact h.idle hxl (calm_eq (update_no st h.vm hf)) (fun W1 hR hC => calm_eq (rupd_no st hR (h.dlen (by omega)) (doc_no hf)))
  | some p =>
    refine ⟨0, fun W1 => UpdPost g bm tv rv T rows N col p st W W1, (update_any st h.vm hf).mono ?_, fun W1 hp => ?_⟩
    · rintro e W1 ⟨rfl, hp⟩
      refine ⟨rfl, hp, ?_⟩
      obtain ⟨A, B, col', e1, e2, e3⟩ := hp
      exact e3.1.block x hxl (fun f => f hx)
    · obtain ⟨A, B, col', e1, e2, e3⟩ := hp
      obtain ⟨rest, p1, p2⟩ := flat_at e1
      have l1 := p1.length_eq
      have l2 := h.n2
      obtain ⟨P, S, d1, -, d3⟩ := cut_doc h.vm.bags e1
      refine h.fin hx hxr e3 e2 (by have := h.n1; omega) (by
        rw [(p2 _).length_eq]
        simp only [List.length_append, List.length_cons] at l1 ⊢
        omega) hxl ?_
      rw [d3]
      have hR := h.mid e3
      rw [d1] at hR
      have hnd := doc_nd h.vm.ids
      rw [d1] at hnd
      have hlen := h.dlen (by omega)
      rw [d1] at hlen
      have hid : (toD p).1 = id := (findV_some hf).2
      exact rupd_yes st hR hlen (by rw [← hid]; exact nd_ahead hnd) hid
theorem pair_reb (id : Int) (h : SV w0 g r tT T k bm tv rv rows N col v W) (hk : k ≤ 998) (hx : col x = 0) (hxr : x ≠ r) (hxl : x < W.heap.size) (htT : tT = .slice A0 n c0) (hnT : n = T.length) (hrT : ReadsI w0 .u64 A0 T) :
    Pair 44 45 #[.pointer (some ⟨g, 0, none⟩), .int .i64 id] #[.pointer (some ⟨r, 0, none⟩), .int .i64 id] w0 g r tT T k x W := by
  cases hf : findV rows id with
  | none => exact h.idle hxl (calm_eq (rebag_no h.vm hf)) (fun W1 hR hC => calm_eq (rreb_no hR (h.dlen (by omega)) (doc_no hf)))
  | some p =>
    have hid : (toD p).1 = id := (findV_some hf).2
    have hnd := doc_nd h.vm.ids
    have hlen := h.dlen (by omega)
    by_cases hb : bagOf T p.stake = p.bag
    · refine ⟨10, fun W1 => W1 = W, (rebag_same h.vm hf hb).mono ?_, fun W1 hW => ?_⟩
      · rintro e W1 ⟨rfl, rfl⟩
        exact ⟨rfl, rfl, rfl⟩
      · subst hW
        refine h.fin hx hxr (Stp.refl _ _) h.vm (by have := h.n1; omega) (by have := h.n2; omega) hxl ?_
        obtain ⟨A, B, cs, c, e1, _⟩ := h.vm.loc hf
        obtain ⟨P, S, d1, -, -⟩ := cut_doc h.vm.bags e1
        have hR := h.rf
        rw [d1] at hR hnd hlen ⊢
        exact rreb_same hR htT hnT (hrT.chg h.bl (fun _ _ f => f)) h.vm.ris h.vm.tl hlen (by rw [← hid]; exact nd_ahead hnd) hid (by unfold toD; simp [hb])
    · refine ⟨0, fun W1 => RebPost g bm tv rv T rows N col p (bagOf T p.stake) W W1, (rebag_any h.vm hf hb (by have := h.n1; omega)).mono ?_, fun W1 hp => ?_⟩
      · rintro e W1 ⟨rfl, hp⟩
        refine ⟨rfl, hp, ?_⟩
        obtain ⟨A, B, l, hh, mb, col', e1, e2, e3, e4⟩ := hp
        exact e4.1.block x hxl (fun f => f hx)
      · obtain ⟨A, B, l, hh, mb, col', e1, e2, e3, e4⟩ := hp
        obtain ⟨rest, p1, p2⟩ := reb_perm (q := { p with bag := bagOf T p.stake, h := hh, mb := mb }) e1 e2
        have l1 := p1.length_eq
        have l2 := h.n2
        obtain ⟨P, S, d1, d2, -⟩ := cut_doc h.vm.bags e1
        refine h.fin hx hxr e4 e3 (by have := h.n1; omega) (by
          rw [p2.length_eq]
          simp only [List.length_cons] at l1 ⊢
          omega) hxl ?_
        have hbs := bags_set h.vm.bags (i := p.bag) (l' := A ++ B) (fun q hq => by
          rcases List.mem_append.1 hq with hq | hq <;> exact h.vm.bags _ _ e1 q (by simp [hq]))
        rw [ins_doc hbs (p := { p with bag := bagOf T p.stake, h := hh, mb := mb }) e2, d2]
        have hR := h.mid e4
        rw [d1] at hR hnd hlen
        have hm1 : toD { p with bag := bagOf T p.stake, h := hh, mb := mb } = ((toD p).1, (toD p).2.1, ((bagOf T (toD p).2.1 : Nat) : Int)) := rfl
        have hne : ((bagOf T (toD p).2.1 : Nat) : Int) ≠ (toD p).2.2 := fun e => hb (by
          have e2 : ((bagOf T p.stake : Nat) : Int) = (p.bag : Int) := e
          omega)
        rw [hm1]
        have hT' := hrT.chg (h.bl.trans e4.1 (fun j hj f => f (h.co j hj))) (fun _ _ f => f)
        have hP := nd_ahead hnd
        rw [hid] at hP
        exact rreb_yes (P := P) (S := S) (m := toD p) (id := id) (T := T) hR htT hnT hT' h.vm.ris h.vm.tl hlen hP hid hne
theorem pair_fro (id of : Int) (h : SV w0 g r tT T k bm tv rv rows N col v W) (hk : k ≤ 998) (hx : col x = 0) (hxr : x ≠ r) (hxl : x < W.heap.size) :
    Pair 46 47 #[.pointer (some ⟨g, 0, none⟩), .int .i64 id, .int .i64 of] #[.pointer (some ⟨r, 0, none⟩), .int .i64 id, .int .i64 of] w0 g r tT T k x W := by
  have hnd := doc_nd h.vm.ids
  have hlen := h.dlen (by omega)
  cases hf : findV rows id with
  | none => exact h.idle hxl (calm_eq (front_no h.vm (.inl hf))) (fun W1 hR hC => calm_eq (rfro_no hR hlen (.inl (doc_no hf))))
  | some p =>
    cases hq : findV rows of with
    | none => exact h.idle hxl (calm_eq (front_no h.vm (.inr hq))) (fun W1 hR hC => calm_eq (rfro_no hR hlen (.inr (doc_no hq))))
    | some q =>
      have hid : (toD p).1 = id := (findV_some hf).2
      have hof : (toD q).1 = of := (findV_some hq).2
      by_cases hc : p = q ∨ p.bag ≠ q.bag ∨ p.stake ≤ q.stake
      · refine h.idle hxl (front_state h.vm hf hq hc) (fun W1 hR hC => ?_)
        obtain ⟨k1, hk1, e1⟩ := List.mem_iff_getElem.1 (doc_yes hf).1
        obtain ⟨k2, hk2, e2⟩ := List.mem_iff_getElem.1 (doc_yes hq).1
        have g1 : (docOf rows)[k1]? = some (toD p) := by rw [List.getElem?_eq_getElem hk1, e1]
        have g2 : (docOf rows)[k2]? = some (toD q) := by rw [List.getElem?_eq_getElem hk2, e2]
        have := rfro_state hR hlen hnd g1 g2 (by
          rcases hc with h3 | h3 | h3
          · left
            subst h3
            refine (List.getElem_inj (h₀ := by rw [List.length_map]; exact hk1) (h₁ := by rw [List.length_map]; exact hk2) hnd).1 ?_
            simp only [List.getElem_map]
            rw [e1, e2]
          · exact .inr (.inl (by unfold toD; simpa using fun e => h3 (by omega)))
          · exact .inr (.inr h3))
        rw [hid, hof] at this
        exact this
      · obtain ⟨c1, c2, c3⟩ : p ≠ q ∧ p.bag = q.bag ∧ ¬ p.stake ≤ q.stake := by
          refine ⟨fun e => hc (.inl e), ?_, fun e => hc (.inr (.inr e))⟩
          by_cases e : p.bag = q.bag
          · exact e
          · exact absurd (.inr (.inl e)) hc
        refine ⟨0, fun W1 => FroPost g bm tv rv T rows N col p q W W1, (front_any h.vm hf hq c1 c2 c3).mono ?_, fun W1 hp => ?_⟩
        · rintro e W1 ⟨rfl, hp⟩
          refine ⟨rfl, hp, ?_⟩
          obtain ⟨A, B, C, D, col', e1, e0, e2, e3⟩ := hp
          exact e3.1.block x hxl (fun f => f hx)
        · obtain ⟨A, B, C, D, col', e1, e0, e2, e3⟩ := hp
          obtain ⟨rest, p1, p2⟩ := flat_at e1
          have l1 := p1.length_eq
          have l0 := congrArg List.length e0
          have l2 := h.n2
          obtain ⟨P, S, P', S', d1, d0, d2⟩ := fro_doc h.vm.bags e1 e0
          refine h.fin hx hxr e3 e2 (by have := h.n1; omega) (by
            rw [(p2 _).length_eq]
            simp only [List.length_append, List.length_cons] at l1 l0 ⊢
            omega) hxl ?_
          rw [d2]
          have hR := h.mid e3
          rw [d1] at hR hnd hlen
          have := rfro_yes hR hlen hnd d0 (by unfold toD; simp [c2]) c3
          rw [hid, hof] at this
          exact this
end
end Go.Proofs.Ythoagpagnldmeaa.V
