/- A ledger in memory, of either package: what a store in it keeps. -/
import Derived.Test.YtpndkelbchjkiaaLf
set_option linter.unusedVariables false
set_option linter.unusedSimpArgs false
namespace Go.Proofs.Ytpndkelbchjkiaa
open Go.RowKit Go.Ps
/-- A ledger lies in block g (hd: its cells behind the accounts' slice V). -/
structure GAt (tG tA tC : TypeId) (W : World) (g : Nat) (hd : List Value) (V : Value) (L : List Row) : Prop where
  cell : W.heap[g]? = some (.cells (V :: hd).toArray tG (0, 0))
  rows : OwnF W tA 4 facc V L
  chs : ∀ i, i < L.length → OwnF W tC 2 fch (L.getD i r0).v (L.getD i r0).1.ch
  v0 : V.ownBlock ≠ some g
  vs : ∀ i k, i < L.length → (L.getD i r0).v.ownBlock = some k → k ≠ g ∧ V.ownBlock ≠ some k
  vv : ∀ i j k, i < L.length → j < L.length → (L.getD i r0).v.ownBlock = some k → (L.getD j r0).v.ownBlock = some k → i = j
theorem LAt.gat {W : World} {g : Nat} {V : Value} {L : List Row} {tre pot iss : Int} (h : LAt W g V L tre pot iss) : GAt 64 34 38 W g [.int .u64 tre, .int .u64 pot, .int .u64 iss] V L := ⟨h.cell, h.rows, h.chs, h.v0, h.vs, h.vv⟩
theorem GAt.lat {W : World} {g : Nat} {V : Value} {L : List Row} {tre pot iss : Int} (h : GAt 64 34 38 W g [.int .u64 tre, .int .u64 pot, .int .u64 iss] V L) : LAt W g V L tre pot iss := ⟨h.cell, h.rows, h.chs, h.v0, h.vs, h.vv⟩
theorem set_getD (L : List Row) (x : Row) {i j : Nat} (hi : i < L.length) : (L.set i x).getD j r0 = if i = j then x else L.getD j r0 := by
  simp only [List.getD_eq_getElem?_getD, List.getElem?_set]
  split
  · simp
  · rfl
namespace GAt
variable {tG tA tC : TypeId} {W W' : World} {g : Nat} {V : Value} {hd : List Value} {L : List Row}
theorem chg (h : GAt tG tA tC W g hd V L) {F : Nat → Prop} (hc : Chg F W W') (hF : ∀ k, Mine g V L k → ¬ F k) : GAt tG tA tC W' g hd V L :=
  ⟨(hc.block g (heap_lt h.cell) (hF g (.inl rfl))).trans h.cell, h.rows.chg hc (fun k hk => hF k (.inr (.inl hk))), fun i hi => (h.chs i hi).chg hc (fun k hk => hF k (.inr (.inr ⟨i, hi, hk⟩))), h.v0, h.vs, h.vv⟩
theorem keep (h : GAt tG tA tC W g hd V L) (hc : Chg (fun _ => False) W W') : GAt tG tA tC W' g hd V L := h.chg hc (fun _ _ => id)
theorem mine_lt (h : GAt tG tA tC W g hd V L) {k : Nat} (hk : Mine g V L k) : k < W.heap.size := by
  rcases hk with rfl | hk | ⟨i, hi, hk⟩
  · exact heap_lt h.cell
  · exact h.rows.lt hk
  · exact (h.chs i hi).lt hk
/-- A cell of the ledger itself. -/
theorem setHd (h : GAt tG tA tC W g hd V L) (j : Nat) (u : Value) : GAt tG tA tC (W.setCell ⟨g, j + 1, none⟩ u) g (hd.set j u) V L := by
  have hc : Chg (fun k => k = g) W (W.setCell ⟨g, j + 1, none⟩ u) := Chg.setCell (F := fun k => k = g) (p := ⟨g, j + 1, none⟩) (Chg.refl _ W) (fun _ => rfl) _
  refine ⟨?_, h.rows.chg hc (fun k hk e => h.v0 (e ▸ hk)), fun i hi => (h.chs i hi).chg hc (fun k hk => (h.vs i k hi hk).1), h.v0, h.vs, h.vv⟩
  have := heap_setCell h.cell (j + 1) u
  simpa using this
/-- An account replaced. -/
theorem rep (h : GAt tG tA tC W g hd V L) {i : Nat} (hi : i < L.length) {x : Row} (hc : Chg (fun k => V.ownBlock = some k ∨ (L.getD i r0).v.ownBlock = some k) W W') (hr : OwnF W' tA 4 facc V (L.set i x)) (hx : OwnF W' tC 2 fch x.v x.1.ch)
    (hk : ∀ k, x.v.ownBlock = some k → (L.getD i r0).v.ownBlock = some k ∨ W.heap.size ≤ k) :
    GAt tG tA tC W' g hd V (L.set i x) ∧ Chg (Mine g V L) W W' ∧ ∀ k, Mine g V (L.set i x) k → Mine g V L k ∨ W.heap.size ≤ k := by
  have hcl := heap_lt h.cell
  have hown : ∀ j k, j < L.length → ((L.set i x).getD j r0).v.ownBlock = some k → (j ≠ i ∧ (L.getD j r0).v.ownBlock = some k) ∨ (j = i ∧ x.v.ownBlock = some k) := by
    intro j k hj hk
    rw [set_getD L x hi] at hk
    by_cases e : i = j
    · rw [if_pos e] at hk
      exact .inr ⟨e.symm, hk⟩
    · rw [if_neg e] at hk
      exact .inl ⟨fun h => e h.symm, hk⟩
  refine ⟨⟨(hc.block g hcl ?_).trans h.cell, hr, fun j hj => ?_, h.v0, fun j k hj hk2 => ?_, fun j l k hj hl h1 h2 => ?_⟩, hc.mono (fun k _ hk => hk.elim (fun h => .inr (.inl h)) (fun h => .inr (.inr ⟨i, hi, h⟩))), ?_⟩
  · rintro (e | e)
    · exact h.v0 e
    · exact (h.vs i g hi e).1 rfl
  · rw [set_getD L x hi]
    rw [List.length_set] at hj
    by_cases e : i = j
    · rw [if_pos e]; exact hx
    · rw [if_neg e]
      refine (h.chs j hj).chg hc ?_
      rintro k hk (e2 | e2)
      · exact (h.vs j k hj hk).2 e2
      · exact e (h.vv i j k hi hj e2 hk)
  · rw [List.length_set] at hj
    rcases hown j k hj hk2 with ⟨_, h1⟩ | ⟨rfl, h1⟩
    · exact h.vs j k hj h1
    · rcases hk k h1 with h2 | h2
      · exact h.vs j k hj h2
      · exact ⟨by omega, fun e => by have := h.rows.lt e; omega⟩
  · rw [List.length_set] at hj hl
    rcases hown j k hj h1 with ⟨n1, h3⟩ | ⟨rfl, h3⟩ <;> rcases hown l k hl h2 with ⟨n2, h4⟩ | ⟨rfl, h4⟩
    · exact h.vv j l k hj hl h3 h4
    · rcases hk k h4 with h5 | h5
      · exact h.vv j l k hj hi h3 h5
      · have := (h.chs j hj).lt h3; omega
    · rcases hk k h3 with h5 | h5
      · exact h.vv j l k hi hl h5 h4
      · have := (h.chs l hl).lt h4; omega
    · rfl
  · rintro k (hk2 | hk2 | ⟨j, hj, hk2⟩)
    · exact .inl (.inl hk2)
    · exact .inl (.inr (.inl hk2))
    · rw [List.length_set] at hj
      rcases hown j k hj hk2 with ⟨_, h1⟩ | ⟨rfl, h1⟩
      · exact .inl (.inr (.inr ⟨j, hj, h1⟩))
      · rcases hk k h1 with h2 | h2
        · exact .inl (.inr (.inr ⟨j, hj, h2⟩))
        · exact .inr h2
/-- Where the accounts lie. -/
theorem acc (h : GAt tG tA tC W g hd V L) {i : Nat} (hi : i < L.length) : ∃ b c cur, V = .slice (some ⟨b, 0, none⟩) L.length c ∧ V.ownBlock = some b ∧ L.length ≤ c ∧ W.heap[b]? = some (.cells cur tA (0, 0)) ∧ b ≠ g ∧ ∀ i j, i < L.length → j < 4 → cur[i * 4 + j]? = (facc (L.getD i r0))[j]? := by
  obtain ⟨b, c, cur, e1, e2, e3, e4, _, e6⟩ := h.rows.at_ layA r0 (by omega)
  exact ⟨b, c, cur, e1, e2, e4, e3, fun e => h.v0 (e ▸ e2), e6⟩
/-- A cell of an account that isn't its chunks' slice. -/
theorem setAcc (h : GAt tG tA tC W g hd V L) {i b j : Nat} (hi : i < L.length) (hb : V.ownBlock = some b) (hj : j < 4) (u : Value) (x : Row) (hx : (facc (L.getD i r0)).set j u = facc x) (hv : x.v = (L.getD i r0).v) (hc : x.1.ch = (L.getD i r0).1.ch) :
    GAt tG tA tC (W.setCell ⟨b, i * 4 + j, none⟩ u) g hd V (L.set i x) ∧ Chg (Mine g V L) W (W.setCell ⟨b, i * 4 + j, none⟩ u) ∧ ∀ k, Mine g V (L.set i x) k → Mine g V L k ∨ W.heap.size ≤ k := by
  have hcg : Chg (fun k => k = b) W (W.setCell ⟨b, i * 4 + j, none⟩ u) := Chg.setCell (F := fun k => k = b) (p := ⟨b, i * 4 + j, none⟩) (Chg.refl _ W) (fun _ => rfl) _
  refine h.rep hi (hcg.mono (fun k _ e => .inl (e ▸ hb))) (h.rows.set layA hb hi hj x u hx) ?_ (fun k hk => .inl (hv ▸ hk))
  rw [hv, hc]
  exact (h.chs i hi).chg hcg (fun k hk e => (h.vs i k hi hk).2 (e ▸ hb))
end GAt
end Go.Proofs.Ytpndkelbchjkiaa
