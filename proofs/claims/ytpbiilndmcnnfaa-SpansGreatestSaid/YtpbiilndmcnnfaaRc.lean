/- Spans: the document's Charge. -/
import Derived.Test.YtpbiilndmcnnfaaRs
set_option linter.unusedVariables false
set_option linter.unusedSimpArgs false
namespace Go.Proofs.Ytpbiilndmcnnfaa
open Go.RowKit Go.Ps

def GetsF (ps : List (Int × Value)) (f : Int → Int) : Prop := ∀ k, IM.get ps k (.int .u64 0) = .int .u64 (f k)
def rAfter (f : Int → Int) (l : List Int) (era amount : Int) (k : Int) : Int := if 0 ≤ era ∧ k = rpos l era then mxI (f k) amount else f k
def rRose (f : Int → Int) (l : List Int) (era amount : Int) : Int := if era < 0 then 0 else mxI (f (rpos l era)) amount - f (rpos l era)
def RChargePost (b : Nat) (v1 : Value) (B : Nat) (l : List Int) (f : Int → Int) (era amount : Int) (w : World) (e : Ending) (w' : World) : Prop :=
  ∃ ps', e = .returned (.tuple #[.int .u64 (rRose f l era amount), .int .i64 (chargeCode era)]) ∧ RRep w' b v1 B l ps' ∧ GetsF ps' (rAfter f l era amount) ∧ Chg (fun k => k = B) w w'
theorem rcharge_any (era amount : Int) (w : World) (b : Nat) (v1 : Value) (B : Nat) (l : List Int) (ps : List (Int × Value)) (f : Int → Int) (h : RRep w b v1 B l ps) (hf : GetsF ps f) (hu : U64 (f (rpos l era))) (ha : U64 amount) :
    Calls Try.prog 10 #[.pointer (some ⟨b, 0, none⟩), .int .i64 era, .int .u64 amount] w (RChargePost b v1 B l f era amount w) := by
  by_cases h0 : era < 0
  · have fin : RChargePost b v1 B l f era amount w (.returned (.tuple #[.int .u64 0, .int .i64 1])) w := by
      refine ⟨ps, by simp [rRose, chargeCode, h0], h, fun k => ?_, Chg.refl _ _⟩
      rw [hf k, rAfter, if_neg (by omega)]
    clear hu ha h hf
    go_enter Try.func10, Try.ntmps10
    go_wp2
    go_ret2
    exact fin
  · have hsp := rspan_any era w b v1 B l ps h
    obtain ⟨n, hn⟩ : ∃ n, n = rpos l era := ⟨_, rfl⟩
    rw [← hn] at hsp hu
    obtain ⟨was, hwas⟩ : ∃ x, x = f n := ⟨_, rfl⟩
    have c1 := h.c1
    have lk := h.look n
    rw [hf n, ← hwas] at lk
    rw [← hwas] at hu
    obtain ⟨mx, hmx⟩ : ∃ m, m = mxI was amount := ⟨_, rfl⟩
    obtain ⟨w', hst, hB', hg⟩ := h.h2.store (P := Try.prog) Try.underlying41 Try.underlying3 n (.int .u64 mx)
    have hc : Chg (fun k => k = B) w w' := (Chg.refl (fun k => k = B) w).grown hg (fun k hk _ => by cases hk; rfl)
    have hR : RRep w' b v1 B l (IM.upd n (.int .u64 mx) ps) := ⟨(hc.block b (heap_lt h.hb) (fun e => h.ne e)).trans h.hb, h.h1.chg hc (fun k hk e => h.n3 (e ▸ hk)), hB', h.n1, h.n3, h.l1⟩
    have lk2 := hR.look n
    rw [IM.get_upd, if_pos rfl] at lk2
    have c12 := hR.c1
    have fin : RChargePost b v1 B l f era amount w (.returned (.tuple #[.int .u64 (mx - was), .int .i64 0])) w' := by
      refine ⟨_, by rw [rRose, if_neg h0, ← hn, ← hwas, ← hmx, chargeCode, if_neg h0], hR, fun k => ?_, hc⟩
      rw [IM.get_upd, rAfter, ← hn]
      by_cases hk : k = n
      · rw [if_pos hk, if_pos ⟨by omega, hk⟩, hk, ← hwas, hmx]
      · rw [if_neg hk, if_neg (by omega), hf k]
    have hw : IntKind.u64.wrap (mx - was) = mx - was := IntWalk.u64_in _ ⟨by rw [hmx]; unfold mxI; split <;> omega, by rw [hmx]; have h1 := hu.1; have h2 := ha.2; have h3 := hu.2; unfold mxI; split <;> omega⟩
    have hmx2 := hmx
    clear hB' hg hc hR hu hn hf h
    by_cases hm : was < amount
    · have hx : mx = amount := by rw [hmx]; simp [mxI, hm]
      subst hx
      clear hmx hmx2 hwas ha
      go_enter Try.func10, Try.ntmps10
      go_wp2_with (go_at_call 14; refine hsp.mono ?_; rintro e w' ⟨rfl, rfl⟩)
      go_ret2
      exact fin
    · have hx : mx = was := by rw [hmx]; simp [mxI, hm]
      subst hx
      clear hmx hmx2 hwas ha
      go_enter Try.func10, Try.ntmps10
      go_wp2_with (go_at_call 14; refine hsp.mono ?_; rintro e w' ⟨rfl, rfl⟩)
      go_ret2
      rw [Int.sub_self] at fin
      exact fin
end Go.Proofs.Ytpbiilndmcnnfaa
