/- Voters in memory. -/
import Derived.Test.YthoagpagnldmeaaVs
set_option linter.unusedVariables false
set_option linter.unusedSimpArgs false
namespace Go.Proofs.Ythoagpagnldmeaa.V
open Go.RowKit Go.Ps
/-- A voter: its block, its member's block. -/
structure Vo where
  id : Int
  stake : Int
  bag : Nat
  h : Int
  b : Nat
  mb : Nat
def Vo.mem (p : Vo) : Mem := ⟨p.mb, p.h, .int .i64 p.id⟩
def Vo.ent (p : Vo) : Mem := ⟨p.b, p.id, undef⟩
/-- A chain's blocks. -/
structure Cst where
  g : Nat
  mp : Option Nat
  X : List Mem
  n : Int
/-- Voters in memory: the chains cs, the voters vs; col tells whose a block is (0: another's). -/
structure VM0 (W : World) (g bm : Nat) (tv rv : Value) (T : List Int) (cs : List Cst) (vs : List Vo) (col : Nat → Nat) : Prop where
  cell : W.heap[g]? = some (.cells #[tv, rv, .map (some bm)] 118 (0, 0))
  thr : Go.Ps.Own W 68 .u64 tv T
  rows : OwnF W 23 1 fp rv (cs.map (·.g))
  ch : ∀ (i : Nat) (c : Cst), cs[i]? = some c → ChW 95 54 W c.g c.mp c.X c.n
  map : MapIs W (some bm) (vs.map Vo.ent)
  vo : ∀ p ∈ vs, W.heap[p.b]? = some (.cells #[.int .u64 p.stake, .int .i64 (p.bag : Nat), .int .i64 p.h] 124 (0, 0))
  nb : (vs.map (·.b)).Nodup
  c1 : col g = 1
  c2 : col bm = 2
  c3 : ∀ k, tv.ownBlock = some k → col k = 3
  c4 : ∀ k, rv.ownBlock = some k → col k = 4
  c5 : ∀ p ∈ vs, col p.b = 5
  cc : ∀ (i : Nat) (c : Cst), cs[i]? = some c → ∀ k, Mine c.g c.mp c.X k → col k = 6 + i
  top : ∀ k, W.heap.size ≤ k → col k = 0
/-- A step: other blocks lie as they lay; none of the old blocks changes its owner. -/
def Stp (col : Nat → Nat) (w : World) (col' : Nat → Nat) (w' : World) : Prop := Chg (fun k => col k ≠ 0) w w' ∧ ∀ k, k < w.heap.size → col' k = col k
theorem Stp.refl (col : Nat → Nat) (w : World) : Stp col w col w := ⟨Chg.refl _ _, fun _ _ => rfl⟩
theorem Stp.trans {c c' c'' : Nat → Nat} {w w' w'' : World} (h : Stp c w c' w') (k : Stp c' w' c'' w'') : Stp c w c'' w'' :=
  ⟨h.1.trans k.1 (fun j hj hn e => hn (by rw [h.2 j hj]; exact e)), fun j hj => (k.2 j (Nat.lt_of_lt_of_le hj h.1.size)).trans (h.2 j hj)⟩
section
variable {W W' : World} {g bm : Nat} {tv rv : Value} {T : List Int} {cs : List Cst} {vs : List Vo} {col col' : Nat → Nat}
/-- Nothing of it changes. -/
theorem VM0.keep (h : VM0 W g bm tv rv T cs vs col) {F : Nat → Prop} (hc : Chg F W W') (hF : ∀ k, k < W.heap.size → F k → col k = 0) : VM0 W' g bm tv rv T cs vs col := by
  have hk : ∀ k, k < W.heap.size → col k ≠ 0 → W'.heap[k]? = W.heap[k]? := fun k hk hn => hc.block k hk (fun f => hn (hF k hk f))
  refine ⟨?_, ?_, ?_, ?_, ?_, ?_, h.nb, h.c1, h.c2, h.c3, h.c4, h.c5, h.cc, fun k hk' => h.top k (Nat.le_trans hc.size hk')⟩
  · rw [hk g (heap_lt h.cell) (by rw [h.c1]; decide)]; exact h.cell
  · exact h.thr.chg hc (fun k e f => by have := hF k (h.thr.lt e) f; rw [h.c3 k e] at this; cases this)
  · exact h.rows.chg hc (fun k e f => by have := hF k (h.rows.lt e) f; rw [h.c4 k e] at this; cases this)
  · intro i c hi
    exact (h.ch i c hi).same (fun k hm => hk k ((h.ch i c hi).lt hm) (by rw [h.cc i c hi k hm]; omega))
  · exact h.map.same (fun k e => by cases e; exact hk bm (h.map.lt rfl) (by rw [h.c2]; decide))
  · intro p hp
    rw [hk p.b (heap_lt (h.vo p hp)) (by rw [h.c5 p hp]; decide)]
    exact h.vo p hp
theorem VM0.perm {vs' : List Vo} (h : VM0 W g bm tv rv T cs vs col) (p : vs.Perm vs') : VM0 W g bm tv rv T cs vs' col :=
  ⟨h.cell, h.thr, h.rows, h.ch, h.map.perm (p.map _), fun q hq => h.vo q (p.mem_iff.2 hq), (p.map _).nodup_iff.1 h.nb, h.c1, h.c2, h.c3, h.c4, fun q hq => h.c5 q (p.mem_iff.2 hq), h.cc, h.top⟩
open Classical in
/-- A chain's method. -/
theorem VM0.chain (h : VM0 W g bm tv rv T cs vs col) {i : Nat} {c : Cst} (hi : cs[i]? = some c) {u : Value} {Y : List Mem} {n' : Int} (hp : ChPost 95 54 u c.g c.mp c.X Y n' W W') :
    ∃ mp' col', VM0 W' g bm tv rv T (cs.set i ⟨c.g, mp', Y, n'⟩) vs col' ∧ Stp col W col' W' := by
  obtain ⟨mp', hch, hC, hnew⟩ := hp
  have hil : i < cs.length := (List.getElem?_eq_some_iff.1 hi).1
  have hk : ∀ k, k < W.heap.size → col k ≠ 6 + i → W'.heap[k]? = W.heap[k]? := fun k hk hn => hC.block k hk (fun f => hn (h.cc i c hi k f))
  obtain ⟨col', hcol⟩ : ∃ col' : Nat → Nat, col' = fun k => if k < W.heap.size then col k else if Mine c.g mp' Y k then 6 + i else 0 := ⟨_, rfl⟩
  have hold : ∀ k, k < W.heap.size → col' k = col k := fun k hk' => by rw [hcol]; simp [hk']
  have hmine : ∀ k, Mine c.g mp' Y k → col' k = 6 + i := fun k hm => by
    by_cases hlt : k < W.heap.size
    · rw [hold k hlt]
      rcases hnew k hm with h1 | h1
      · exact h.cc i c hi k h1
      · omega
    · rw [hcol]; simp [hlt, hm]
  refine ⟨mp', col', ⟨?_, ?_, ?_, ?_, ?_, ?_, h.nb, ?_, ?_, ?_, ?_, ?_, ?_, ?_⟩, hC.mono (fun k hk' f => by rw [h.cc i c hi k f]; omega), hold⟩
  · rw [hk g (heap_lt h.cell) (by rw [h.c1]; omega)]; exact h.cell
  · exact h.thr.chg hC (fun k e f => by have := h.cc i c hi k f; rw [h.c3 k e] at this; omega)
  · have hg : (cs.set i ⟨c.g, mp', Y, n'⟩).map (·.g) = cs.map (·.g) := by
      apply List.ext_getElem?
      intro j
      simp only [List.getElem?_map, List.getElem?_set]
      by_cases e : i = j
      · subst e; simp [hil]; have := (List.getElem?_eq_some_iff.1 hi).2; rw [this]
      · simp [e]
    rw [hg]
    exact h.rows.chg hC (fun k e f => by have := h.cc i c hi k f; rw [h.c4 k e] at this; omega)
  · intro j c' hj
    rw [List.getElem?_set] at hj
    by_cases e : i = j
    · subst e
      simp only [if_true, hil] at hj
      cases hj
      exact hch
    · simp only [e, if_false] at hj
      exact (h.ch j c' hj).same (fun k hm => hk k ((h.ch j c' hj).lt hm) (by rw [h.cc j c' hj k hm]; omega))
  · exact h.map.same (fun k e => by cases e; exact hk bm (h.map.lt rfl) (by rw [h.c2]; omega))
  · intro p hp
    rw [hk p.b (heap_lt (h.vo p hp)) (by rw [h.c5 p hp]; omega)]
    exact h.vo p hp
  · rw [hold g (heap_lt h.cell)]; exact h.c1
  · rw [hold bm (h.map.lt rfl)]; exact h.c2
  · exact fun k e => (hold k (h.thr.lt e)).trans (h.c3 k e)
  · exact fun k e => (hold k (h.rows.lt e)).trans (h.c4 k e)
  · exact fun p hp => (hold _ (heap_lt (h.vo p hp))).trans (h.c5 p hp)
  · intro j c' hj k hm
    rw [List.getElem?_set] at hj
    by_cases e : i = j
    · subst e
      simp only [if_true, hil] at hj
      cases hj
      exact hmine k hm
    · simp only [e, if_false] at hj
      rw [hold k ((h.ch j c' hj).lt hm)]
      exact h.cc j c' hj k hm
  · intro k hk'
    rw [hcol]
    have h1 : ¬ k < W.heap.size := by have := hC.size; omega
    have h2 : ¬ Mine c.g mp' Y k := fun hm => by have := hch.lt hm; omega
    simp [h1, h2]
/-- A voter's block is laid, and put into the map. -/
theorem VM0.put (h : VM0 W g bm tv rv T cs vs col) {p : Vo} (hb : p.b = W.heap.size) (hid : ∀ q ∈ vs, q.id ≠ p.id) :
    ∃ w', (Instr.mapUpdate 115 (.map (some bm)) (.int .i64 p.id) (.pointer (some ⟨W.heap.size, 0, none⟩))).run Try.prog (W.alloc (.cells #[.int .u64 p.stake, .int .i64 (p.bag : Nat), .int .i64 p.h] 124)) = .ok () w' ∧
      VM0 w' g bm tv rv T cs (p :: vs) (fun k => if k = W.heap.size then 5 else col k) ∧ Stp col W (fun k => if k = W.heap.size then 5 else col k) w' := by
  obtain ⟨V, hV⟩ : ∃ V, V = W.alloc (.cells #[.int .u64 p.stake, .int .i64 (p.bag : Nat), .int .i64 p.h] 124) := ⟨_, rfl⟩
  have hC0 : Chg (fun _ => False) W V := by rw [hV]; exact (Chg.refl _ W).alloc _
  have hVs : V.heap.size = W.heap.size + 1 := by rw [hV]; simp
  have hVb : V.heap[W.heap.size]? = some (.cells #[.int .u64 p.stake, .int .i64 (p.bag : Nat), .int .i64 p.h] 124 (0, 0)) := by rw [hV]; exact heap_alloc_at _ _
  obtain ⟨ps, hm, h1, h2, h3, h4⟩ := h.map
  obtain ⟨w', hrun, hm', hg⟩ := (hm.chg hC0 id).store Try.underlying115 Try.underlying3 p.id (.pointer (some ⟨W.heap.size, 0, none⟩))
  have hbl := hm.lt
  have hC : Chg (fun k => k = bm) W w' := (hC0.mono (fun _ _ h => h.elim)).grown hg (fun k e _ => (Option.some.inj e).symm)
  have hk : ∀ k, k < W.heap.size → k ≠ bm → w'.heap[k]? = W.heap[k]? := fun k hk hn => hC.block k hk hn
  have hws : W.heap.size + 1 ≤ w'.heap.size := by have := hg.size; omega
  have hold : ∀ k, k < W.heap.size → (if k = W.heap.size then 5 else col k) = col k := fun k hk' => by rw [if_neg (by omega)]
  refine ⟨w', by rw [← hV]; exact hrun, ⟨?_, ?_, ?_, ?_, ?_, ?_, ?_, ?_, ?_, ?_, ?_, ?_, ?_, ?_⟩, hC.mono (fun k _ f => by rw [f, h.c2]; decide), hold⟩
  · rw [hk g (heap_lt h.cell) (fun e => by have := h.c1; rw [e, h.c2] at this; cases this)]; exact h.cell
  · exact h.thr.chg hC (fun k e f => by have := h.c3 k e; rw [f, h.c2] at this; cases this)
  · exact h.rows.chg hC (fun k e f => by have := h.c4 k e; rw [f, h.c2] at this; cases this)
  · intro i c hi
    exact (h.ch i c hi).same (fun k hm => hk k ((h.ch i c hi).lt hm) (fun e => by have := h.cc i c hi k hm; rw [e, h.c2] at this; omega))
  · rw [List.map_cons]
    refine MapIs.put h1 h2 h3 h4 ?_ ?_
    · intro x hx
      obtain ⟨q, hq, rfl⟩ := List.mem_map.1 hx
      exact hid q hq
    · show IMap w' bm (IM.upd p.id (.pointer (some ⟨p.b, 0, none⟩)) ps)
      rw [hb]; exact hm'
  · intro q hq
    rcases List.mem_cons.1 hq with rfl | hq
    · rw [hb, hg.block _ (by omega) (fun e => by have := Option.some.inj e; omega)]
      exact hVb
    · rw [hk q.b (heap_lt (h.vo q hq)) (fun e => by have := h.c5 q hq; rw [e, h.c2] at this; cases this)]
      exact h.vo q hq
  · rw [List.map_cons, List.nodup_cons]
    refine ⟨fun hm => ?_, h.nb⟩
    obtain ⟨q, hq, e⟩ := List.mem_map.1 hm
    have := heap_lt (h.vo q hq)
    omega
  · rw [hold g (heap_lt h.cell)]; exact h.c1
  · rw [hold bm hbl]; exact h.c2
  · exact fun k e => (hold k (h.thr.lt e)).trans (h.c3 k e)
  · exact fun k e => (hold k (h.rows.lt e)).trans (h.c4 k e)
  · intro q hq
    rcases List.mem_cons.1 hq with rfl | hq
    · show (if q.b = W.heap.size then 5 else col q.b) = 5
      rw [if_pos hb]
    · exact (hold _ (heap_lt (h.vo q hq))).trans (h.c5 q hq)
  · exact fun i c hi k hm => (hold k ((h.ch i c hi).lt hm)).trans (h.cc i c hi k hm)
  · intro k hk'
    show (if k = W.heap.size then 5 else col k) = 0
    rw [if_neg (by omega)]
    exact h.top k (by omega)
/-- A voter is taken out of the map. -/
theorem VM0.del {A B : List Vo} {p : Vo} (h : VM0 W g bm tv rv T cs (A ++ p :: B) col) (hids : ((A ++ p :: B).map (·.id)).Nodup) (ty : TypeId) :
    ∃ w', (Builtin.delete_ #[115, 3] ty #[.map (some bm), .int .i64 p.id]).run Try.prog W = .ok (.tuple #[]) w' ∧ VM0 w' g bm tv rv T cs (A ++ B) col ∧ Stp col W col w' := by
  obtain ⟨ps, hm, h1, h2, h3, h4⟩ := h.map
  obtain ⟨w', hrun, hm', hg⟩ := hm.drop Try.underlying115 Try.underlying3 p.id ty
  have hbl := hm.lt
  have hC : Chg (fun k => k = bm) W w' := (Chg.refl _ W).grown hg (fun k e _ => (Option.some.inj e).symm)
  have hk : ∀ k, k < W.heap.size → k ≠ bm → w'.heap[k]? = W.heap[k]? := fun k hk hn => hC.block k hk hn
  have hsub : ∀ q ∈ A ++ B, q ∈ A ++ p :: B := fun q hq => by
    rcases List.mem_append.1 hq with hq | hq <;> simp [hq]
  have hx : (A ++ B).Sublist (A ++ p :: B) := (List.Sublist.refl A).append (List.sublist_cons_self p B)
  refine ⟨w', hrun, ⟨?_, ?_, ?_, ?_, ?_, ?_, (hx.map _).nodup h.nb, h.c1, h.c2, h.c3, h.c4, fun q hq => h.c5 q (hsub q hq), h.cc, fun k hk' => h.top k (Nat.le_trans hC.size hk')⟩, hC.mono (fun k _ f => by rw [f, h.c2]; decide), fun _ _ => rfl⟩
  · rw [hk g (heap_lt h.cell) (fun e => by have := h.c1; rw [e, h.c2] at this; cases this)]; exact h.cell
  · exact h.thr.chg hC (fun k e f => by have := h.c3 k e; rw [f, h.c2] at this; cases this)
  · exact h.rows.chg hC (fun k e f => by have := h.c4 k e; rw [f, h.c2] at this; cases this)
  · intro i c hi
    exact (h.ch i c hi).same (fun k hm => hk k ((h.ch i c hi).lt hm) (fun e => by have := h.cc i c hi k hm; rw [e, h.c2] at this; omega))
  · rw [List.map_append]
    rw [List.map_append, List.map_cons] at h1 h2 h3
    refine MapIs.cut (m := p.ent) h1 h2 h3 h4 ?_ hm'
    simpa [Vo.ent, Function.comp_def] using hids
  · intro q hq
    rw [hk q.b (heap_lt (h.vo q (hsub q hq))) (fun e => by have := h.c5 q (hsub q hq); rw [e, h.c2] at this; cases this)]
    exact h.vo q (hsub q hq)
/-- A voter's cells are set. -/
theorem VM0.set {A B : List Vo} {p : Vo} (h : VM0 W g bm tv rv T cs (A ++ p :: B) col) {q : Vo} (hid : q.id = p.id) (hb : q.b = p.b) {V : World} (hC : Chg (fun k => k = p.b) W V) (hV : V.heap[p.b]? = some (.cells #[.int .u64 q.stake, .int .i64 (q.bag : Nat), .int .i64 q.h] 124 (0, 0))) :
    VM0 V g bm tv rv T cs (A ++ q :: B) col ∧ Stp col W col V := by
  have hp5 : col p.b = 5 := h.c5 p (by simp)
  have hk : ∀ k, k < W.heap.size → col k ≠ 5 → V.heap[k]? = W.heap[k]? := fun k hk hn => hC.block k hk (fun f => hn (by rw [f]; exact hp5))
  have hbs : (A ++ q :: B).map (·.b) = (A ++ p :: B).map (·.b) := by simp [hb]
  have hmem : ∀ r ∈ A ++ q :: B, r = q ∨ (r ∈ A ++ p :: B ∧ r.b ≠ p.b) := by
    have hn := h.nb
    simp only [List.map_append, List.map_cons, List.nodup_append, List.nodup_cons, List.mem_map, List.mem_cons] at hn
    obtain ⟨_, ⟨n1, _⟩, n2⟩ := hn
    intro r hr
    rcases List.mem_append.1 hr with hr | hr
    · exact .inr ⟨by simp [hr], n2 _ ⟨r, hr, rfl⟩ _ (.inl rfl)⟩
    · rcases List.mem_cons.1 hr with rfl | hr
      · exact .inl rfl
      · exact .inr ⟨by simp [hr], fun e => n1 ⟨r, hr, e⟩⟩
  refine ⟨⟨?_, ?_, ?_, ?_, ?_, ?_, by rw [hbs]; exact h.nb, h.c1, h.c2, h.c3, h.c4, ?_, h.cc, fun k hk' => h.top k (Nat.le_trans hC.size hk')⟩, hC.mono (fun k _ f => by rw [f, hp5]; decide), fun _ _ => rfl⟩
  · rw [hk g (heap_lt h.cell) (by rw [h.c1]; decide)]; exact h.cell
  · exact h.thr.chg hC (fun k e f => by have := h.c3 k e; rw [f, hp5] at this; cases this)
  · exact h.rows.chg hC (fun k e f => by have := h.c4 k e; rw [f, hp5] at this; cases this)
  · intro i c hi
    exact (h.ch i c hi).same (fun k hm => hk k ((h.ch i c hi).lt hm) (by rw [h.cc i c hi k hm]; omega))
  · have he : (A ++ q :: B).map Vo.ent = (A ++ p :: B).map Vo.ent := by simp [Vo.ent, hb, hid]
    rw [he]
    exact h.map.same (fun k e => by cases e; exact hk bm (h.map.lt rfl) (by rw [h.c2]; decide))
  · intro r hr
    rcases hmem r hr with rfl | ⟨h1, h2⟩
    · rw [hb]; exact hV
    · rw [hC.block r.b (heap_lt (h.vo r h1)) h2]
      exact h.vo r h1
  · intro r hr
    rcases hmem r hr with rfl | ⟨h1, h2⟩
    · rw [hb]; exact hp5
    · exact h.c5 r h1
end
end Go.Proofs.Ythoagpagnldmeaa.V
