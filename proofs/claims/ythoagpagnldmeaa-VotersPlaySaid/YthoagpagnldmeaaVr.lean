/- Going through a function: contracts whose callers' invariants abide whatever the iterator turns of its own; what a round keeps; blocks that no round touches. -/
import Derived.Test.YthoagpagnldmeaaVq
import Derived.RangeFuncWrites
set_option linter.unusedVariables false
set_option linter.unusedSimpArgs false
namespace Go.Ps
open Go.RowKit
/-- As SeqC; the caller's invariants abide the turn of any block that is no cells and was laid since the call began; M: the caller's own blocks that are no cells lie below it. -/
def SeqO {α : Type} (F : Fence) (n : Nat) (P : Program) (f : Nat) (lb : Array Value) (enc : α → Array Value) (K : World → World → Prop) (C : List α → α → World → Prop) (S Sx : List α → Prop) (N M : Nat) (w : World) : Prop :=
  ∀ (l : Nat) (J Jx : List α → World → Prop) (W : World), Below w.heap.size w W → M ≤ W.heap.size → OwnFrom W.heap.size J → OwnFrom W.heap.size Jx →
    (∀ pre x V, J pre V → pre.length < N → C pre x V → YieldAt F (n - 1) P l (enc x) V fun e V' =>
      (e = .returned (.bool true) ∧ J (pre ++ [x]) V' ∧ K V V') ∨ (e = .returned (.bool false) ∧ Jx (pre ++ [x]) V' ∧ KeepsFrom M V V')) →
    J [] W →
    CallsIn F n P f (#[.func (.yield l) #[] #[]] ++ lb) W fun e V => (∃ v, e = .returned v) ∧ ((∃ xs, S xs ∧ J xs V) ∨ ∃ pre, Sx pre ∧ Jx pre V)
theorem RecAt.turned {l d : Nat} {r : Loop} {A B : World} {row : Option Nat} {m : Nat} (h : RecAt l d r A) (hg : A.grownBy B row) (hr : ∀ k, row = some k → m ≤ k) (hm : l < m ∧ d < m) : RecAt l d r B :=
  ⟨(hg.block l (heap_lt h.1) (fun e => by have := hr _ e.symm; omega)).trans h.1, (hg.block d (heap_lt h.2) (fun e => by have := hr _ e.symm; omega)).trans h.2⟩
theorem RecAt.keepsFrom {l d m : Nat} {r : Loop} {A B : World} (h : RecAt l d r A) (hk : KeepsFrom m A B) (hl : m ≤ l) (hd : m ≤ d) : RecAt l d r B := ⟨hk.same _ _ hl h.1 rfl, hk.same _ _ hd h.2 rfl⟩
section
variable {α : Type} {F : Fence} {n : Nat} {P : Program}
set_option maxHeartbeats 400000 in
/-- The law: the body knows what is promised of its element; it keeps what is no cells from the loop's begin on; the iterator may turn blocks of its own. -/
theorem wpIn_rangeFunc_o {g : Operand} {ps : Array Tmp} {assign body : Code} {Q : Exit → Act → World → Prop} {a : Act} {w : World}
    (hro : F.round = none) (h1 : 1 ≤ n) {gf : Nat} {lb : Array Value} (hg : a.eval g = .func (.func gf) #[] lb) (hFg : F.fn gf) (eg : ∀ args w, (callFunc gf args).run P w = .ok (.enter gf args) w)
    {enc : α → Array Value} {K : World → World → Prop} {C : List α → α → World → Prop} {S Sx : List α → Prop} {N : Nat} {w0 : World} (hseq : SeqO F (n - 1) P gf lb enc K C S Sx N (w.heap.size + 2) w0)
    (hKt : ∀ {A B C : World}, K A B → K B C → K A C) (hKb : ∀ (W : World) (l : Nat) (o o' : Obj), l = w.heap.size + 1 → W.heap[l]? = some o → o.isCells = false → o.isWalk = false → K W (W.putObj l o')) (hb0 : Below w0.heap.size w0 w) (hps : ∀ x, (enc x).size = ps.size)
    (hCb : ∀ pre x (W : World) (l : Nat) (o o' : Obj), w.heap.size ≤ l → W.heap[l]? = some o → o.isCells = false → C pre x W → C pre x (W.putObj l o'))
    (I : List α → World → Prop) (Ix : Code → List α → World → Prop) (hI : OwnFrom w.heap.size I) (hIx : ∀ c, OwnFrom w.heap.size (Ix c)) (h0 : I [] w) (a₁ : α → Act)
    (hassign : ∀ (l : Nat) (x : α) (W : World) (K : Act → World → Prop), K (a₁ x) W →
      assign.wpIn (F.inRound l) (n - 1 - 1) P (Exit.then K (fun _ _ _ => False)) { tmps := (ps.zip (enc x)).foldl (fun t (p, v) => t.setIfInBounds p v) a.tmps, defers := [] } W)
    (hbody : ∀ (l : Nat) (pre : List α) (x : α) (W : World), I pre W → pre.length < N → C pre x W → body.wpIn (F.inRound l) (n - 1 - 1) P (ownPostG w.heap.size K I Ix (pre ++ [x]) W) (a₁ x) W)
    (hdone : ∀ (D : Nat) (xs : List α) (W : World), w.heap.size ≤ D → S xs → I xs W → W.heap[D]? = some (.deferred (some [])) → Q .normal { a with defers := { target := .collected D, args := #[] } :: a.defers } W)
    (hstop : ∀ (D : Nat) (c : Code) (pre : List α) (W : World), w.heap.size ≤ D → Sx pre → Ix c pre W → W.heap[D]? = some (.deferred (some [])) → c.wpIn F n P Q { a with defers := { target := .collected D, args := #[] } :: a.defers } W) :
    (Code.rangeFunc g ps assign body).wpIn F n P Q a w := by
  refine wpIn_rangeFunc (fun fn hfn => ?_)
  rw [hro]
  obtain ⟨d, hd⟩ : ∃ d, d = w.heap.size := ⟨_, rfl⟩
  obtain ⟨rec, hrec⟩ : ∃ rec : LoopState → Option Code → Loop, rec = fun st pe => { state := st, pending := pe, fn := fn, tmps := a.tmps, params := ps, assign := assign, body := body, defers := d } := ⟨_, rfl⟩
  obtain ⟨W1, hW1⟩ : ∃ W1, W1 = (w.alloc (.deferred (some []))).alloc (.loop (rec .ready none)) := ⟨_, rfl⟩
  have hsz : (w.alloc (.deferred (some []))).heap.size = d + 1 := by rw [hd]; simp
  have hR1 : RecAt (d + 1) d (rec .ready none) W1 := by
    rw [hW1]
    refine ⟨?_, heap_alloc_ne (by rw [hd]; exact heap_alloc_at w _)⟩
    rw [← hsz]
    exact heap_alloc_at _ _
  have hI1 : I [] W1 := by rw [hW1]; exact hI.alloc _ (hI.alloc _ h0)
  have hb1 : Below w0.heap.size w0 W1 := by rw [hW1]; exact hb0.trans ((((Below.refl _ w).alloc (Nat.le_refl _) _).alloc (by simp) _).mono hb0.size)
  have hs1 : W1.heap.size = d + 2 := by rw [hW1]; simp [hsz]
  have hent : (Instr.enterLoop fn a.tmps ps assign body none).run P w = .ok (d + 1, [{ target := .collected d, args := #[] }]) W1 := by
    rw [hW1, hrec, hd]
    exact run_enterLoop_outer _ _ _ _ _
  have hput : ∀ {pre : List α} {W : World} {r : Loop} (o' : Obj), I pre W → RecAt (d + 1) d r W → I pre (W.putObj (d + 1) o') := fun o' hi hr => hI.putObj o' hi (by omega) hr.1 rfl
  have hputx : ∀ {c : Code} {pre : List α} {W : World} {r : Loop} (o' : Obj), Ix c pre W → RecAt (d + 1) d r W → Ix c pre (W.putObj (d + 1) o') := fun o' hi hr => (hIx _).putObj o' hi (by omega) hr.1 rfl
  have hend : ∀ {W : World} {r : Loop} (hr : RecAt (d + 1) d r W) (hb : r.state ≠ .busy), (Instr.endLoop (d + 1)).run P W = .ok r.pending (W.putObj (d + 1) (.loop { r with state := .exhausted })) := fun hr hb => run_endLoop hr.1 hb
  have hcall := hseq (d + 1) (fun pre W => I pre W ∧ RecAt (d + 1) d (rec .ready none) W) (fun pre W => ∃ c, Ix c pre W ∧ RecAt (d + 1) d (rec .done (some c)) W) W1 hb1 (by omega)
    (fun s A B row hs hg' hr => ⟨hI s A B row hs.1 hg' (fun k e => by obtain ⟨h1, h2⟩ := hr k e; exact ⟨by omega, h2⟩), hs.2.turned hg' (fun k e => by obtain ⟨h1, h2⟩ := hr k e; exact h1) (by omega)⟩)
    (fun s A B row hs hg' hr => by
      obtain ⟨c, hc, hl⟩ := hs
      exact ⟨c, hIx c s A B row hc hg' (fun k e => by obtain ⟨h1, h2⟩ := hr k e; exact ⟨by omega, h2⟩), hl.turned hg' (fun k e => by obtain ⟨h1, h2⟩ := hr k e; exact h1) (by omega)⟩)
    (by
      rintro pre x W ⟨hi, hr⟩ hlen hc
      have hy := run_yield (P := P) (args := enc x) hr.1 (by rw [hrec]; exact hps x)
      rw [hrec] at hy
      refine ⟨fn, _, assign, body, hy, roundIn_of_wpIn hfn (hassign _ x W _ ⟨_, run_beginRound hr.1 (by rw [hrec]), ?_⟩)⟩
      have hbusy : { rec .ready none with state := .busy } = rec .busy none := by rw [hrec]
      rw [hbusy]
      have hr2 : RecAt (d + 1) d (rec .busy none) (W.putObj (d + 1) (.loop (rec .busy none))) := hr.put (by omega)
      have hk2 : K W (W.putObj (d + 1) (.loop (rec .busy none))) := hKb _ _ _ _ (by omega) hr.1 rfl rfl
      refine wpIn_mono (hbody _ pre x _ (hput _ hi hr) hlen (hCb _ _ _ _ _ _ (by omega) hr.1 rfl hc)) ?_
      have leave : ∀ (jump : Option Code) (V : World), RecAt (d + 1) d (rec .busy none) V → (Instr.endRound (d + 1) jump).run P V = .ok (.bool jump.isNone) (V.putObj (d + 1) (.loop (rec (if jump.isNone then .ready else .done) jump))) := fun jump V hV => by
        have := run_endRound (P := P) jump hV.1
        rw [hrec] at this ⊢
        exact this
      have hkf : ∀ {V : World} (o1 o2 : Obj), KeepsFrom w.heap.size (W.putObj (d + 1) o1) V → KeepsFrom (w.heap.size + 2) W (V.putObj (d + 1) o2) := fun o1 o2 h => ⟨by have := h.size; simp [World.putObj] at this ⊢; exact this, fun k o hk h1 h2 => by
        rw [World.putObj_heap_other (by omega)]
        exact h.same k o (by omega) ((World.putObj_heap_other (by omega)).trans h1) h2⟩
      rintro e a3 V hp
      cases e with
      | normal =>
        obtain ⟨h3, h4, h5⟩ := hp
        have hV := hr2.keepsFrom h3 (by omega) (by omega)
        exact ⟨_, _, leave none V hV, .inl ⟨rfl, ⟨hput _ h5 hV, hV.put (by omega)⟩, hKt (hKt hk2 h4) (hKb _ _ _ _ (by omega) hV.1 rfl rfl)⟩⟩
      | ret => exact ⟨_, _, leave (some .ret) V (hr2.keepsFrom hp.1 (by omega) (by omega)), .inr ⟨rfl, ⟨.ret, hputx _ hp.2 (hr2.keepsFrom hp.1 (by omega) (by omega)), (hr2.keepsFrom hp.1 (by omega) (by omega)).put (by omega)⟩, hkf _ _ hp.1⟩⟩
      | exit id => exact ⟨_, _, leave (some (.exit id)) V (hr2.keepsFrom hp.1 (by omega) (by omega)), .inr ⟨rfl, ⟨.exit id, hputx _ hp.2 (hr2.keepsFrom hp.1 (by omega) (by omega)), (hr2.keepsFrom hp.1 (by omega) (by omega)).put (by omega)⟩, hkf _ _ hp.1⟩⟩
      | goto t => exact ⟨_, _, leave (some (.goto t)) V (hr2.keepsFrom hp.1 (by omega) (by omega)), .inr ⟨rfl, ⟨.goto t, hputx _ hp.2 (hr2.keepsFrom hp.1 (by omega) (by omega)), (hr2.keepsFrom hp.1 (by omega) (by omega)).put (by omega)⟩, hkf _ _ hp.1⟩⟩
      | panic ch => exact hp.elim
      | outgrown => exact hp.elim)
    ⟨hI1, hR1⟩
  refine ⟨d + 1, [{ target := .collected d, args := #[] }], W1, { target := .fn (.func gf) lb, args := #[.func (.yield (d + 1)) #[] #[]] }, W1, gf, #[.func (.yield (d + 1)) #[] #[]] ++ lb, W1, ?_, ?_, ?_, ?_, fun _ => h1, ?_⟩
  · exact hent
  · simp only [resolve, hg]
    simp [go_sem]
  · intro f' hf'
    simp [Target.leads] at hf'
    subst hf'
    exact hFg
  · simp [invoke, go_sem, eg]
  · refine hcall.mono ?_
    rintro e V ⟨⟨v, rfl⟩, ⟨xs, hS, hi, hr⟩ | ⟨pre, hSx, c, hi, hr⟩⟩
    · have he : (Instr.endLoop (d + 1)).run P V = .ok none (V.putObj (d + 1) (.loop (rec .exhausted none))) := by
        have := run_endLoop (P := P) hr.1 (by rw [hrec]; simp)
        rw [hrec] at this ⊢
        exact this
      have h5 := hput (.loop (rec .exhausted none)) hi hr
      have h6 : (V.putObj (d + 1) (.loop (rec .exhausted none))).heap[d]? = some (.deferred (some [])) := (World.putObj_heap_other (by omega)).trans hr.2
      exact ⟨none, _, he, hdone d xs _ (by omega) hS h5 h6⟩
    · have he : (Instr.endLoop (d + 1)).run P V = .ok (some c) (V.putObj (d + 1) (.loop (rec .exhausted (some c)))) := by
        have := run_endLoop (P := P) hr.1 (by rw [hrec]; simp)
        rw [hrec] at this ⊢
        exact this
      have h5 := hputx (.loop (rec .exhausted (some c))) hi hr
      have h6 : (V.putObj (d + 1) (.loop (rec .exhausted (some c)))).heap[d]? = some (.deferred (some [])) := (World.putObj_heap_other (by omega)).trans hr.2
      exact ⟨some c, _, he, hstop d c pre _ (by omega) hSx h5 h6⟩
end
/-- A range's marks at a function's end: each block is shut. -/
theorem leaves_marks {F : Fence} {n : Nat} {P : Program} {fn : Func} {tmps : Array Value} {R : Ending → World → Prop} : ∀ (Ds : List Nat) (w : World), Ds.Nodup → (∀ D ∈ Ds, w.heap[D]? = some (.deferred (some []))) →
    (∀ w', w'.heap.size = w.heap.size → w'.os = w.os → w'.tape = w.tape → w'.output = w.output → (∀ k, k ∉ Ds → w'.heap[k]? = w.heap[k]?) → LeavesInM F n P fn tmps R [] .returning w') →
    LeavesInM F n P fn tmps R (Ds.map fun D => { target := .collected D, args := #[] }) .returning w
  | [], w, _, _, h => h w rfl rfl rfl rfl (fun _ _ => rfl)
  | D :: Ds, w, hn, hD, h => by
    obtain ⟨h1, h2⟩ := List.nodup_cons.1 hn
    refine ⟨by simp, .inl ⟨D, _, rfl, run_takeDeferred (hD D (by simp)), ?_⟩⟩
    refine leaves_marks Ds _ h2 (fun E hE => ?_) (fun w' e1 e2 e3 e4 e5 => h w' ?_ e2 e3 e4 (fun k hk => ?_))
    · rw [World.putObj_heap_other (show E ≠ D from fun e => h1 (by rw [← e]; exact hE))]
      exact hD E (by simp [hE])
    · rw [e1]; simp [World.putObj]
    · rw [e5 k (fun e => hk (by simp [e])), World.putObj_heap_other (fun e => hk (by simp [e]))]
end Go.Ps
namespace Go.Proofs.Ythoagpagnldmeaa.V
open Go.RowKit Go.Ps
/-- The loop's own cells: its box B, and the row that lies in it. -/
def Box (B : Nat) (W : World) (k : Nat) : Prop := k = B ∨ ∃ v, W.cell? ⟨B, 0, none⟩ = some v ∧ v.ownBlock = some k
/-- What a round keeps: all cells but its own; of all else what lay below n₀ or lies from M on. -/
structure Kp (n₀ M B : Nat) (W W' : World) : Prop where
  size : W.heap.size ≤ W'.heap.size
  cells : ∀ k o, W.heap[k]? = some o → o.isCells = true → ¬ Box B W k → W'.heap[k]? = some o
  others : ∀ k o, W.heap[k]? = some o → o.isCells = false → (k < n₀ ∨ M ≤ k) → W'.heap[k]? = some o
  own : ∀ k, Box B W' k → Box B W k ∨ (W.heap.size ≤ k ∧ k < W'.heap.size)
theorem Kp.trans {n₀ M B : Nat} {U V W : World} (h : Kp n₀ M B U V) (k : Kp n₀ M B V W) : Kp n₀ M B U W := by
  refine ⟨Nat.le_trans h.size k.size, fun i o hi hc hn => k.cells i o (h.cells i o hi hc hn) hc (fun ho => ?_), fun i o hi hc hn => k.others i o (h.others i o hi hc hn) hc hn, fun i hi => ?_⟩
  · rcases h.own i ho with h1 | h1
    · exact hn h1
    · have := heap_lt hi; omega
  · rcases k.own i hi with h1 | h1
    · rcases h.own i h1 with h2 | h2
      · exact .inl h2
      · have := k.size; exact .inr ⟨h2.1, by omega⟩
    · have := h.size; exact .inr ⟨by omega, h1.2⟩
theorem Kp.mono {n₀ M M' B : Nat} {V W : World} (h : Kp n₀ M B V W) (hM : M ≤ M') : Kp n₀ M' B V W := ⟨h.size, h.cells, fun k o h1 h2 h3 => h.others k o h1 h2 (by omega), h.own⟩
theorem Kp.from {n₀ M B m : Nat} {V W : World} (h : Kp n₀ M B V W) (hm : M ≤ m) : KeepsFrom m V W := ⟨h.size, fun k o h1 h2 h3 => h.others k o h2 h3 (.inr (by omega))⟩
theorem Box.same {B k : Nat} {W W' : World} (hb : W'.heap[B]? = W.heap[B]?) (h : Box B W' k) : Box B W k := by
  rcases h with rfl | ⟨v, h2, h3⟩
  · exact .inl rfl
  · exact .inr ⟨v, by rw [← h2]; exact (World.cell?_of_block hb).symm, h3⟩
theorem kp_b {n₀ M B m : Nat} (hn : n₀ ≤ m) (hM : m + 2 ≤ M) (hB : B < m) (W : World) (l : Nat) (o o' : Obj) (hl : l = m + 1) (h : W.heap[l]? = some o) (hc : o.isCells = false) (_ : o.isWalk = false) : Kp n₀ M B W (W.putObj l o') := by
  have hs : ∀ k, k ≠ l → (W.putObj l o').heap[k]? = W.heap[k]? := fun k hk => World.putObj_heap_other hk
  have hz : (W.putObj l o').heap.size = W.heap.size := by simp [World.putObj]
  refine ⟨by rw [hz]; exact Nat.le_refl _, fun k x hk hx hno => ?_, fun k x hk hx hno => ?_, fun k hk => .inl (hk.same (hs B (by omega)))⟩
  · rw [hs k]
    · exact hk
    · rintro rfl
      rw [h] at hk
      cases hk
      rw [hc] at hx
      cases hx
  · rw [hs k (by omega)]
    exact hk
/-- A block that no round touches. -/
def Safe (n₀ M B : Nat) (W : World) (k : Nat) : Prop := ∃ o, W.heap[k]? = some o ∧ ((o.isCells = true ∧ ¬ Box B W k) ∨ (o.isCells = false ∧ (k < n₀ ∨ M ≤ k)))
theorem Safe.kp {n₀ M B k : Nat} {W W' : World} (h : Safe n₀ M B W k) (hk : Kp n₀ M B W W') : W'.heap[k]? = W.heap[k]? ∧ Safe n₀ M B W' k := by
  obtain ⟨o, h1, h2 | h2⟩ := h
  · have h4 := hk.cells k o h1 h2.1 h2.2
    refine ⟨h4.trans h1.symm, o, h4, .inl ⟨h2.1, fun ho => ?_⟩⟩
    rcases hk.own k ho with h5 | h5
    · exact h2.2 h5
    · have := heap_lt h1; omega
  · have h4 := hk.others k o h1 h2.1 h2.2
    exact ⟨h4.trans h1.symm, o, h4, .inr h2⟩
/-- The box holds no block that isn't there. -/
def Live (B : Nat) (W : World) : Prop := B < W.heap.size ∧ ∀ k, Box B W k → k < W.heap.size
theorem Live.kp {n₀ M B : Nat} {W W' : World} (h : Live B W) (hk : Kp n₀ M B W W') : Live B W' := by
  refine ⟨Nat.lt_of_lt_of_le h.1 hk.size, fun k ho => ?_⟩
  rcases hk.own k ho with h1 | h1
  · exact Nat.lt_of_lt_of_le (h.2 k h1) hk.size
  · exact h1.2
theorem Live.same {B : Nat} {W W' : World} (h : Live B W) (hs : W.heap.size ≤ W'.heap.size) (hb : W'.heap[B]? = W.heap[B]?) : Live B W' :=
  ⟨Nat.lt_of_lt_of_le h.1 hs, fun k ho => Nat.lt_of_lt_of_le (h.2 k (ho.same hb)) hs⟩
theorem Safe.same {n₀ M B k : Nat} {W W' : World} (h : Safe n₀ M B W k) (hk : W'.heap[k]? = W.heap[k]?) (hb : W'.heap[B]? = W.heap[B]?) : Safe n₀ M B W' k := by
  obtain ⟨o, h1, h2 | h2⟩ := h
  · exact ⟨o, hk.trans h1, .inl ⟨h2.1, fun ho => h2.2 (ho.same hb)⟩⟩
  · exact ⟨o, hk.trans h1, .inr h2⟩
theorem Safe.calm {n₀ M B k : Nat} {W W' : World} (h : Safe n₀ M B W k) (hB : Live B W) (hc : Chg (fun _ => False) W W') : W'.heap[k]? = W.heap[k]? ∧ Safe n₀ M B W' k := by
  have h1 : W'.heap[k]? = W.heap[k]? := by
    obtain ⟨o, h1, _⟩ := h
    exact hc.block k (heap_lt h1) id
  exact ⟨h1, h.same h1 (hc.block B hB.1 id)⟩
theorem Live.calm {B : Nat} {W W' : World} (hB : Live B W) (hc : Chg (fun _ => False) W W') : Live B W' := hB.same hc.size (hc.block B hB.1 id)
/-- A new block of cells. -/
theorem Safe.new {n₀ M B k : Nat} {W W' : World} (hB : Live B W) (hc : Chg (fun _ => False) W W') (hk : W.heap.size ≤ k) {o : Obj} (ho : W'.heap[k]? = some o) (hcl : o.isCells = true ∨ M ≤ k) : Safe n₀ M B W' k := by
  refine ⟨o, ho, ?_⟩
  cases hc1 : o.isCells with
  | true => exact .inl ⟨rfl, fun hb => by have := hB.2 k (hb.same (hc.block B hB.1 id)); omega⟩
  | false =>
    rcases hcl with h | h
    · rw [hc1] at h; cases h
    · exact .inr ⟨rfl, .inr h⟩
/-- A round that keeps all but its own box, and what lies in it. -/
theorem Kp.of {n₀ M B : Nat} {W W' : World} (hs : W.heap.size ≤ W'.heap.size) (hk : ∀ k o, W.heap[k]? = some o → ¬ Box B W k → W'.heap[k]? = some o) (ho : ∀ k, Box B W k → ∀ o, W.heap[k]? = some o → o.isCells = true) (hw : ∀ k, Box B W' k → Box B W k ∨ (W.heap.size ≤ k ∧ k < W'.heap.size)) : Kp n₀ M B W W' :=
  ⟨hs, fun k o h1 _ h2 => hk k o h1 h2, fun k o h1 h2 _ => hk k o h1 (fun hb => by rw [ho k hb o h1] at h2; cases h2), hw⟩
end Go.Proofs.Ythoagpagnldmeaa.V
