/- Going through a function whose rounds are told what the function promises of each element. -/
import Derived.Test.YthoagpagnldmeaaCj
set_option linter.unusedVariables false
set_option linter.unusedSimpArgs false
namespace Go.Ps
open Go.RowKit
/-- A contract of a function that is gone through: at each element x the promise C holds of the world in which the round begins. -/
def SeqC {α : Type} (F : Fence) (n : Nat) (P : Program) (f : Nat) (lb : Array Value) (enc : α → Array Value) (K : World → World → Prop) (C : List α → α → World → Prop) (S Sx : List α → Prop) (N : Nat) (w : World) : Prop :=
  ∀ (l : Nat) (J Jx : List α → World → Prop) (W : World), Below w.heap.size w W → AbidesFrom W.heap.size J → AbidesFrom W.heap.size Jx →
    (∀ pre x V, J pre V → pre.length < N → C pre x V → YieldAt F (n - 1) P l (enc x) V fun e V' =>
      (e = .returned (.bool true) ∧ J (pre ++ [x]) V' ∧ K V V') ∨ (e = .returned (.bool false) ∧ Jx (pre ++ [x]) V')) →
    J [] W →
    CallsIn F n P f (#[.func (.yield l) #[] #[]] ++ lb) W fun e V => (∃ v, e = .returned v) ∧ ((∃ xs, S xs ∧ J xs V) ∨ ∃ pre, Sx pre ∧ Jx pre V)
theorem SeqC.of {α : Type} {F : Fence} {n : Nat} {P : Program} {f : Nat} {lb : Array Value} {enc : α → Array Value} {K : World → World → Prop} {C : List α → α → World → Prop} {S Sx : List α → Prop} {N : Nat} {w : World} (h : SeqC F n P f lb enc K C S Sx N w) : SeqStopsK F n P f lb enc K S Sx N w :=
  fun l J Jx W h1 h2 h3 h4 h5 => h l J Jx W h1 h2 h3 (fun pre x V a b _ => h4 pre x V a b) h5
/-- The loop's record r at l, its block of deferred calls at d. -/
def RecAt (l d : Nat) (r : Loop) (W : World) : Prop := W.heap[l]? = some (.loop r) ∧ W.heap[d]? = some (.deferred (some []))
theorem RecAt.put {l d : Nat} {r r' : Loop} {W : World} (h : RecAt l d r W) (hne : d ≠ l) : RecAt l d r' (W.putObj l (.loop r')) :=
  ⟨World.putObj_heap_same (heap_lt h.1), (World.putObj_heap_other hne).trans h.2⟩
theorem RecAt.grown {l d : Nat} {r : Loop} {A B : World} {row : Option Nat} (h : RecAt l d r A) (hg : A.grownBy B row) (hr : ∀ k, row = some k → ∃ o : Obj, A.heap[k]? = some o ∧ o.isWalk = true) : RecAt l d r B :=
  ⟨(grownBy_keeps hg hr h.1 rfl).trans h.1, (grownBy_keeps hg hr h.2 rfl).trans h.2⟩
theorem RecAt.others {l d : Nat} {r : Loop} {A B : World} (h : RecAt l d r A) (hk : KeepsOthers A B) : RecAt l d r B := ⟨hk.same _ _ h.1 rfl, hk.same _ _ h.2 rfl⟩
section
variable {α : Type} {F : Fence} {n : Nat} {P : Program}
set_option maxHeartbeats 400000 in
/-- The law, as the library's 'wpIn_rangeFunc_ownF', the body knowing what is promised of its element. -/
theorem wpIn_rangeFunc_told {g : Operand} {ps : Array Tmp} {assign body : Code} {Q : Exit → Act → World → Prop} {a : Act} {w : World}
    (hro : F.round = none) (h1 : 1 ≤ n) {gf : Nat} {lb : Array Value} (hg : a.eval g = .func (.func gf) #[] lb) (hFg : F.fn gf) (eg : ∀ args w, (callFunc gf args).run P w = .ok (.enter gf args) w)
    {enc : α → Array Value} {K : World → World → Prop} {C : List α → α → World → Prop} {S Sx : List α → Prop} {N : Nat} {w0 : World} (hseq : SeqC F (n - 1) P gf lb enc K C S Sx N w0)
    (hKt : ∀ {A B C : World}, K A B → K B C → K A C) (hKb : ∀ (W : World) (l : Nat) (o o' : Obj), w.heap.size ≤ l → W.heap[l]? = some o → o.isCells = false → o.isWalk = false → K W (W.putObj l o')) (hb0 : Below w0.heap.size w0 w) (hps : ∀ x, (enc x).size = ps.size)
    (hCb : ∀ pre x (W : World) (l : Nat) (o o' : Obj), w.heap.size ≤ l → W.heap[l]? = some o → o.isCells = false → C pre x W → C pre x (W.putObj l o'))
    (I : List α → World → Prop) (Ix : Code → List α → World → Prop) (hI : OwnFrom w.heap.size I) (hIx : ∀ c, OwnFrom w.heap.size (Ix c)) (h0 : I [] w) (a₁ : α → Act)
    (hassign : ∀ (l : Nat) (x : α) (W : World) (K : Act → World → Prop), K (a₁ x) W →
      assign.wpIn (F.inRound l) (n - 1 - 1) P (Exit.then K (fun _ _ _ => False)) { tmps := (ps.zip (enc x)).foldl (fun t (p, v) => t.setIfInBounds p v) a.tmps, defers := [] } W)
    (hbody : ∀ (l : Nat) (pre : List α) (x : α) (W : World), I pre W → pre.length < N → C pre x W → body.wpIn (F.inRound l) (n - 1 - 1) P (ownPostK K I Ix (pre ++ [x]) W) (a₁ x) W)
    (hdone : ∀ (D : Nat) (xs : List α) (W : World), w.heap.size ≤ D → S xs → I xs W → W.heap[D]? = some (.deferred (some [])) → Q .normal { a with defers := { target := .collected D, args := #[] } :: a.defers } W)
    (hstop : ∀ (D : Nat) (c : Code) (pre : List α) (W : World), w.heap.size ≤ D → Sx pre → Ix c pre W → W.heap[D]? = some (.deferred (some [])) → c.wpIn F n P Q { a with defers := { target := .collected D, args := #[] } :: a.defers } W) :
    (Code.rangeFunc g ps assign body).wpIn F n P Q a w := by
  refine wpIn_rangeFunc (fun fn hfn => ?_)
  rw [hro]
  obtain ⟨d, hd⟩ : ∃ d, d = w.heap.size := ⟨_, rfl⟩
  obtain ⟨rec, hrec⟩ : ∃ rec : LoopState → Option Code → Loop, rec = fun st pe => { state := st, pending := pe, fn := fn, tmps := a.tmps, params := ps, assign := assign, body := body, defers := d } := ⟨_, rfl⟩
  obtain ⟨W1, hW1⟩ : ∃ W1, W1 = (w.alloc (.deferred (some []))).alloc (.loop (rec .ready none)) := ⟨_, rfl⟩
  have hsz : (w.alloc (.deferred (some []))).heap.size = d + 1 := by rw [hd]; simp
  have hR1 : RecAt (d + 1) d (rec .ready none) W1 := by
    rw [hW1]
    refine ⟨?_, heap_alloc_ne (by rw [hd]; exact heap_alloc_at w _)⟩
    rw [← hsz]
    exact heap_alloc_at _ _
  have hI1 : I [] W1 := by rw [hW1]; exact hI.alloc _ (hI.alloc _ h0)
  have hb1 : Below w0.heap.size w0 W1 := by rw [hW1]; exact hb0.trans ((((Below.refl _ w).alloc (Nat.le_refl _) _).alloc (by simp) _).mono hb0.size)
  have hs1 : d ≤ W1.heap.size := by rw [hW1, hd]; simp; omega
  have hent : (Instr.enterLoop fn a.tmps ps assign body none).run P w = .ok (d + 1, [{ target := .collected d, args := #[] }]) W1 := by
    rw [hW1, hrec, hd]
    exact run_enterLoop_outer _ _ _ _ _
  have hput : ∀ {pre : List α} {W : World} {r : Loop} (o' : Obj), I pre W → RecAt (d + 1) d r W → I pre (W.putObj (d + 1) o') := fun o' hi hr => hI.putObj o' hi (by omega) hr.1 rfl
  have hputx : ∀ {c : Code} {pre : List α} {W : World} {r : Loop} (o' : Obj), Ix c pre W → RecAt (d + 1) d r W → Ix c pre (W.putObj (d + 1) o') := fun o' hi hr => (hIx _).putObj o' hi (by omega) hr.1 rfl
  have hend : ∀ {W : World} {r : Loop} (hr : RecAt (d + 1) d r W) (hb : r.state ≠ .busy), (Instr.endLoop (d + 1)).run P W = .ok r.pending (W.putObj (d + 1) (.loop { r with state := .exhausted })) := fun hr hb => run_endLoop hr.1 hb
  have hcall := hseq (d + 1) (fun pre W => I pre W ∧ RecAt (d + 1) d (rec .ready none) W) (fun pre W => ∃ c, Ix c pre W ∧ RecAt (d + 1) d (rec .done (some c)) W) W1 hb1
    (fun s A B row hs hg' hr => ⟨hI s A B row hs.1 hg' (fun k e => by obtain ⟨h1, o, h2, h3⟩ := hr k e; exact ⟨by omega, o, h2, Obj.not_cells_of_walk h3⟩), hs.2.grown hg' (fun k e => (hr k e).2)⟩)
    (fun s A B row hs hg' hr => by
      obtain ⟨c, hc, hl⟩ := hs
      exact ⟨c, hIx c s A B row hc hg' (fun k e => by obtain ⟨h1, o, h2, h3⟩ := hr k e; exact ⟨by omega, o, h2, Obj.not_cells_of_walk h3⟩), hl.grown hg' (fun k e => (hr k e).2)⟩)
    (by
      rintro pre x W ⟨hi, hr⟩ hlen hc
      have hy := run_yield (P := P) (args := enc x) hr.1 (by rw [hrec]; exact hps x)
      rw [hrec] at hy
      refine ⟨fn, _, assign, body, hy, roundIn_of_wpIn hfn (hassign _ x W _ ⟨_, run_beginRound hr.1 (by rw [hrec]), ?_⟩)⟩
      have hbusy : { rec .ready none with state := .busy } = rec .busy none := by rw [hrec]
      rw [hbusy]
      have hr2 : RecAt (d + 1) d (rec .busy none) (W.putObj (d + 1) (.loop (rec .busy none))) := hr.put (by omega)
      have hk2 : K W (W.putObj (d + 1) (.loop (rec .busy none))) := hKb _ _ _ _ (by omega) hr.1 rfl rfl
      refine wpIn_mono (hbody _ pre x _ (hput _ hi hr) hlen (hCb _ _ _ _ _ _ (by omega) hr.1 rfl hc)) ?_
      have leave : ∀ (jump : Option Code) (V : World), RecAt (d + 1) d (rec .busy none) V → (Instr.endRound (d + 1) jump).run P V = .ok (.bool jump.isNone) (V.putObj (d + 1) (.loop (rec (if jump.isNone then .ready else .done) jump))) := fun jump V hV => by
        have := run_endRound (P := P) jump hV.1
        rw [hrec] at this ⊢
        exact this
      rintro e a3 V hp
      cases e with
      | normal =>
        obtain ⟨h3, h4, h5⟩ := hp
        have hV := hr2.others h3
        exact ⟨_, _, leave none V hV, .inl ⟨rfl, ⟨hput _ h5 hV, hV.put (by omega)⟩, hKt (hKt hk2 h4) (hKb _ _ _ _ (by omega) hV.1 rfl rfl)⟩⟩
      | ret => exact ⟨_, _, leave (some .ret) V (hr2.others hp.1), .inr ⟨rfl, .ret, hputx _ hp.2 (hr2.others hp.1), (hr2.others hp.1).put (by omega)⟩⟩
      | exit id => exact ⟨_, _, leave (some (.exit id)) V (hr2.others hp.1), .inr ⟨rfl, .exit id, hputx _ hp.2 (hr2.others hp.1), (hr2.others hp.1).put (by omega)⟩⟩
      | goto t => exact ⟨_, _, leave (some (.goto t)) V (hr2.others hp.1), .inr ⟨rfl, .goto t, hputx _ hp.2 (hr2.others hp.1), (hr2.others hp.1).put (by omega)⟩⟩
      | panic ch => exact hp.elim
      | outgrown => exact hp.elim)
    ⟨hI1, hR1⟩
  refine ⟨d + 1, [{ target := .collected d, args := #[] }], W1, { target := .fn (.func gf) lb, args := #[.func (.yield (d + 1)) #[] #[]] }, W1, gf, #[.func (.yield (d + 1)) #[] #[]] ++ lb, W1, ?_, ?_, ?_, ?_, fun _ => h1, ?_⟩
  · exact hent
  · simp only [resolve, hg]
    simp [go_sem]
  · intro f' hf'
    simp [Target.leads] at hf'
    subst hf'
    exact hFg
  · simp [invoke, go_sem, eg]
  · refine hcall.mono ?_
    rintro e V ⟨⟨v, rfl⟩, ⟨xs, hS, hi, hr⟩ | ⟨pre, hSx, c, hi, hr⟩⟩
    · have he : (Instr.endLoop (d + 1)).run P V = .ok none (V.putObj (d + 1) (.loop (rec .exhausted none))) := by
        have := run_endLoop (P := P) hr.1 (by rw [hrec]; simp)
        rw [hrec] at this ⊢
        exact this
      have h5 := hput (.loop (rec .exhausted none)) hi hr
      have h6 : (V.putObj (d + 1) (.loop (rec .exhausted none))).heap[d]? = some (.deferred (some [])) := (World.putObj_heap_other (by omega)).trans hr.2
      exact ⟨none, _, he, hdone d xs _ (by omega) hS h5 h6⟩
    · have he : (Instr.endLoop (d + 1)).run P V = .ok (some c) (V.putObj (d + 1) (.loop (rec .exhausted (some c)))) := by
        have := run_endLoop (P := P) hr.1 (by rw [hrec]; simp)
        rw [hrec] at this ⊢
        exact this
      have h5 := hputx (.loop (rec .exhausted (some c))) hi hr
      have h6 : (V.putObj (d + 1) (.loop (rec .exhausted (some c)))).heap[d]? = some (.deferred (some [])) := (World.putObj_heap_other (by omega)).trans hr.2
      exact ⟨some c, _, he, hstop d c pre _ (by omega) hSx h5 h6⟩
end
end Go.Ps
