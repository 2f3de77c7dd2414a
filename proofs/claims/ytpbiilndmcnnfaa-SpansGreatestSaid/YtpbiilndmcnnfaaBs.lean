/- Spans: both side by side, with the script's element beside them. -/
import Derived.Test.YtpbiilndmcnnfaaBo
set_option linter.unusedVariables false
set_option linter.unusedSimpArgs false
namespace Go.Proofs.Ytpbiilndmcnnfaa
open Go.RowKit Go.Ps

structure Side (w0 w : World) (bx : Nat) (z1 z2 : Int) (b : Nat) (v1 v2 : Value) (ends charges : List Int) (b' : Nat) (v1' : Value) (B : Nat) (begin_ : List Int) (ps : List (Int × Value)) : Prop where
  bo : Both w w0.heap.size b v1 v2 ends charges b' v1' B begin_ ps
  x1 : w.cell? ⟨bx, 1, none⟩ = some (.int .i64 z1)
  x2 : w.cell? ⟨bx, 2, none⟩ = some (.int .u64 z2)
  nf : ∀ k, (Foot b v1 v2 k ∨ RFoot b' v1' B k) → k ≠ bx
  lt : bx < w.heap.size
  bel : Below w0.heap.size w0 w
section
variable {w0 w w' : World} {bx : Nat} {z1 z2 : Int} {b : Nat} {v1 v2 : Value} {ends charges : List Int} {b' : Nat} {v1' : Value} {B : Nat} {begin_ : List Int} {ps : List (Int × Value)}
theorem Side.keep (h : Side w0 w bx z1 z2 b v1 v2 ends charges b' v1' B begin_ ps) (hc : Chg (fun _ => False) w w') : Side w0 w' bx z1 z2 b v1 v2 ends charges b' v1' B begin_ ps :=
  ⟨h.bo.keep hc, chg_cell hc h.x1 id, chg_cell hc h.x2 id, h.nf, Nat.lt_of_lt_of_le h.lt hc.size, chg_below h.bel hc (fun _ h => absurd h id) h.bel.size⟩
theorem Side.stepS (h : Side w0 w bx z1 z2 b v1 v2 ends charges b' v1' B begin_ ps) {u1 u2 : Value} {ends2 charges2 : List Int} (hs : SRep w' b u1 u2 ends2 charges2) (hc : Chg (Foot b v1 v2) w w')
    (h1 : ∀ k, u1.ownBlock = some k → v1.ownBlock = some k ∨ w.heap.size ≤ k) (h2 : ∀ k, u2.ownBlock = some k → v2.ownBlock = some k ∨ w.heap.size ≤ k) : Side w0 w' bx z1 z2 b u1 u2 ends2 charges2 b' v1' B begin_ ps := by
  refine ⟨h.bo.stepS h.bel.size hs hc h1 h2, chg_cell hc h.x1 (fun hk => h.nf bx (Or.inl hk) rfl), chg_cell hc h.x2 (fun hk => h.nf bx (Or.inl hk) rfl), fun k hk e => ?_, Nat.lt_of_lt_of_le h.lt hc.size, chg_below h.bel hc (fun k hk => h.bo.L k (Or.inl hk)) h.bel.size⟩
  subst e
  have hlt := h.lt
  rcases hk with (hk | hk | hk) | hk
  · exact h.nf k (Or.inl (Or.inl hk)) rfl
  · rcases h1 k hk with h3 | h3
    · exact h.nf k (Or.inl (Or.inr (Or.inl h3))) rfl
    · omega
  · rcases h2 k hk with h3 | h3
    · exact h.nf k (Or.inl (Or.inr (Or.inr h3))) rfl
    · omega
  · exact h.nf k (Or.inr hk) rfl
theorem Side.stepR (h : Side w0 w bx z1 z2 b v1 v2 ends charges b' v1' B begin_ ps) {u1 : Value} {begin2 : List Int} {ps2 : List (Int × Value)} (hr : RRep w' b' u1 B begin2 ps2) {F : Nat → Prop} (hc : Chg F w w') (hF : ∀ k, F k → RFoot b' v1' B k)
    (h1 : ∀ k, u1.ownBlock = some k → v1'.ownBlock = some k ∨ w.heap.size ≤ k) : Side w0 w' bx z1 z2 b v1 v2 ends charges b' u1 B begin2 ps2 := by
  refine ⟨h.bo.stepR h.bel.size hr hc hF h1, chg_cell hc h.x1 (fun hk => h.nf bx (Or.inr (hF _ hk)) rfl), chg_cell hc h.x2 (fun hk => h.nf bx (Or.inr (hF _ hk)) rfl), fun k hk e => ?_, Nat.lt_of_lt_of_le h.lt hc.size, chg_below h.bel hc (fun k hk => h.bo.L k (Or.inr (hF k hk))) h.bel.size⟩
  subst e
  have hlt := h.lt
  rcases hk with hk | (hk | hk | hk)
  · exact h.nf k (Or.inl hk) rfl
  · exact h.nf k (Or.inr (Or.inl hk)) rfl
  · rcases h1 k hk with h3 | h3
    · exact h.nf k (Or.inr (Or.inr (Or.inl h3))) rfl
    · omega
  · exact h.nf k (Or.inr (Or.inr (Or.inr hk))) rfl
theorem Side.start {wr : World} (h : Both wr w0.heap.size b v1 v2 ends charges b' v1' B begin_ ps) (hb : Below w0.heap.size w0 wr) (z0 z1 z2 : Int) (t : TypeId) :
    Side w0 (wr.alloc (.cells #[.int .i64 z0, .int .i64 z1, .int .u64 z2] t)) wr.heap.size z1 z2 b v1 v2 ends charges b' v1' B begin_ ps := by
  refine ⟨h.keep ((Chg.refl _ _).alloc _), cell_of (heap_alloc_at _ _) 1 rfl, cell_of (heap_alloc_at _ _) 2 rfl, fun k hk e => ?_, by rw [World.size_alloc]; omega, chg_below hb ((Chg.refl (fun _ => False) wr).alloc _) (fun _ h => absurd h id) hb.size⟩
  rcases hk with hk | hk
  · have := h.S.lt hk; omega
  · have := h.R.lt hk; omega
end

theorem charge_s {w0 w : World} {bx : Nat} {z1 z2 : Int} {b : Nat} {v1 v2 : Value} {ends charges : List Int} {b' : Nat} {v1' : Value} {B : Nat} {begin_ : List Int} {ps : List (Int × Value)} (h : Side w0 w bx z1 z2 b v1 v2 ends charges b' v1' B begin_ ps) (hS : Sim ends charges begin_ ps) (ha : U64 z2) (hroom : ends.length < 100000) :
    Calls Try.prog 9 #[.pointer (some ⟨b, 0, none⟩), .int .i64 z1, .int .u64 z2] w fun e w' => ∃ v2', e = .returned (.tuple #[.int .u64 (chargeRose ends charges z1 z2), .int .i64 (chargeCode z1)]) ∧ Side w0 w' bx z1 z2 b v1 v2' ends (chargeAfter ends charges z1 z2) b' v1' B begin_ ps := by
  refine (charge_any z1 z2 w b v1 v2 ends charges h.bo.S (by omega) hS.u ha).mono ?_
  rintro e w' ⟨v2', he, hs, hc, hk⟩
  exact ⟨v2', he, h.stepS hs hc (fun k hk => Or.inl hk) hk⟩
theorem rcharge_s {w0 w : World} {bx : Nat} {z1 z2 : Int} {b : Nat} {v1 v2 : Value} {ends charges charges' : List Int} {b' : Nat} {v1' : Value} {B : Nat} {begin_ : List Int} {ps : List (Int × Value)} (h : Side w0 w bx z1 z2 b v1 v2 ends charges' b' v1' B begin_ ps) (hS : Sim ends charges begin_ ps) (ha : U64 z2) :
    Calls Try.prog 10 #[.pointer (some ⟨b', 0, none⟩), .int .i64 z1, .int .u64 z2] w fun e w' => ∃ ps', e = .returned (.tuple #[.int .u64 (chargeRose ends charges z1 z2), .int .i64 (chargeCode z1)]) ∧ Side w0 w' bx z1 z2 b v1 v2 ends charges' b' v1' B begin_ ps' ∧ Sim ends (chargeAfter ends charges z1 z2) begin_ ps' := by
  refine (rcharge_any z1 z2 w b' v1' B begin_ ps (chargedOf charges) h.bo.R hS.g (chargedOf_u hS.u _) ha).mono ?_
  rintro e w' ⟨ps', he, hr, hg, hc⟩
  obtain ⟨h1, h2⟩ := hS.charge ha hg
  exact ⟨ps', by rw [he, h2], h.stepR hr hc (fun k hk => Or.inr (Or.inr hk)) (fun k hk => Or.inl hk), h1⟩
theorem end_s {w0 w : World} {bx : Nat} {z1 z2 : Int} {b : Nat} {v1 v2 : Value} {ends charges : List Int} {b' : Nat} {v1' : Value} {B : Nat} {begin_ : List Int} {ps : List (Int × Value)} (h : Side w0 w bx z1 z2 b v1 v2 ends charges b' v1' B begin_ ps) (hroom : ends.length < 100000) :
    Calls Try.prog 11 #[.pointer (some ⟨b, 0, none⟩), .int .i64 z1] w fun e w' => ∃ v1a, e = .returned (.bool (endB ends z1)) ∧ Side w0 w' bx z1 z2 b v1a v2 (if endB ends z1 then ends ++ [z1] else ends) charges b' v1' B begin_ ps := by
  refine (end_any z1 w b v1 v2 ends charges h.bo.S (by omega)).mono ?_
  rintro e w' ⟨v1a, he, hs, hc, hk⟩
  exact ⟨v1a, he, h.stepS hs hc hk (fun k hk => Or.inl hk)⟩
theorem rend_s {w0 w : World} {bx : Nat} {z1 z2 : Int} {b : Nat} {v1 v2 : Value} {ends ends' charges : List Int} {b' : Nat} {v1' : Value} {B : Nat} {begin_ : List Int} {ps : List (Int × Value)} (h : Side w0 w bx z1 z2 b v1 v2 ends' charges b' v1' B begin_ ps) (hS : Sim ends charges begin_ ps) (hroom : ends.length < 100000) :
    Calls Try.prog 12 #[.pointer (some ⟨b', 0, none⟩), .int .i64 z1] w fun e w' => ∃ v1a, e = .returned (.bool (endB ends z1)) ∧ Side w0 w' bx z1 z2 b v1 v2 ends' charges b' v1a B (if rendB begin_ z1 then begin_ ++ [z1 + 1] else begin_) ps := by
  refine (rend_any z1 w b' v1' B begin_ ps h.bo.R (by rw [hS.e, List.length_map]; exact hroom)).mono ?_
  rintro e w' ⟨v1a, he, hr, hc, hk⟩
  exact ⟨v1a, by rw [he, hS.rend], h.stepR hr hc (fun k hk => Or.inl hk) hk⟩
section
open Go.Joins Go.WideShapes
theorem open_script {H : Type} {enc : TypeId × Value → H} {W : World} {base : Nat} {spare : Nat → Bool} {held : Bool} {a : Option Addr} {len cap : Nat} {d : DataW H} {ps : List MemPlace} (h : DataW.Trod enc Try.prog W base spare held 22 (.slice a len cap) d ps) :
    ∃ zs : List (Int × Int × Int), len = zs.length ∧ (Reads3 W .i64 .i64 .u64 a zs ∧ ∀ z ∈ zs, (Lit.int .i64 z.1).wf = true ∧ (Lit.int .i64 z.2.1).wf = true ∧ (Lit.int .u64 z.2.2).wf = true) :=
  open_reads3 Try.underlying22 Try.underlying34 (by kernel_rfl) rfl rfl rfl (by kernel_rfl) (by kernel_rfl) (by kernel_rfl) Try.underlying3 Try.underlying3 Try.underlying32 h
end
end Go.Proofs.Ytpbiilndmcnnfaa
