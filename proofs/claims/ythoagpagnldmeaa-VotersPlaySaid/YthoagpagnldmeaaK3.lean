/- Kit, third part: small lemmas. -/
import Derived.Test.YthoagpagnldmeaaK2
set_option linter.unusedVariables false
set_option linter.unusedSimpArgs false
namespace Go.Ps
open Go.RowKit
theorem ReadsI.plain {w : World} {q : IntKind} {A : Option Addr} {l : List Int} (h : ReadsI w q A l) (hne : l ≠ []) : ∃ g o, A = some ⟨g, o, Option.none⟩ ∧ ∀ i, i < l.length → w.cell? ⟨g, o + i, Option.none⟩ = some (.int q (l.getD i 0)) := by
  obtain ⟨a, rfl, hx⟩ := h hne
  have h0 := hx 0 (List.length_pos_iff.2 hne)
  have e := plain_addr h0 rfl
  refine ⟨a.block, a.off, by rw [← e], fun i hi => ?_⟩
  have := hx i hi
  rwa [e, add_plain] at this
theorem open_cap {H : Type} {enc : TypeId × Value → H} {P : Program} {W : World} {base : Nat} {spare : Nat → Bool} {held : Bool} {t e : TypeId} {a : Option Addr} {len cap : Nat} {d : DataW H} {ps : List MemPlace}
    (hu : P.underlying t = some (.slice e)) (h : DataW.Trod enc P W base spare held t (.slice a len cap) d ps) : len ≤ cap := by
  obtain ⟨fuel, hf⟩ := h
  rcases Go.Deep.open_slice hu hf with ⟨hcs, _⟩ | ⟨x, l, c, m, n, D, Pl, hcs, _, hl, hm, hmm, hx, hel⟩
  · simp [Value.cells] at hcs
    obtain ⟨rfl, rfl, rfl⟩ := hcs
    exact Nat.le_refl _
  · simp [Value.cells] at hcs
    obtain ⟨rfl, rfl, rfl⟩ := hcs
    exact hl
theorem chg_drewN (w : World) (n : Nat) : Chg (fun _ => False) w (w.drewN n) := (Chg.refl _ _).drewN n
theorem chg_trans {a b c : World} (h : Chg (fun _ => False) a b) (k : Chg (fun _ => False) b c) : Chg (fun _ => False) a c := h.trans k (fun _ _ => id)
theorem chg_to_below {a b : World} (h : Chg (fun _ => False) a b) : Below a.heap.size a b := h.below (fun _ hk => ⟨hk, id⟩)
/-- What a block holds, after a call that changes no block. -/
theorem Chg.heap {w w' : World} (h : Chg (fun _ => False) w w') {b : Nat} {o : Obj} (hb : w.heap[b]? = some o) : w'.heap[b]? = some o := (h.block b (heap_lt hb) id).trans hb
end Go.Ps
