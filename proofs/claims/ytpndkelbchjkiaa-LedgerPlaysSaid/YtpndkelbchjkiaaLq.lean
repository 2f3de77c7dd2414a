/- A ledger in memory. -/
import Derived.Test.YtpndkelbchjkiaaLn
import Derived.Test.YtpndkelbchjkiaaK3
set_option linter.unusedVariables false
set_option linter.unusedSimpArgs false
namespace Go.Proofs.Ytpndkelbchjkiaa
open Go.RowKit Go.Ps
/-- An account. -/
structure Ac where
  free : Int
  bonded : Int
  dep : Int
  ch : List (Int × Int)
def fch (x : Int × Int) : List Value := [.int .u64 x.1, .int .i64 x.2]
/-- An account, and where its chunks lie. -/
def Row := Ac × Option Addr × Nat
def Row.v (x : Row) : Value := .slice x.2.1 x.1.ch.length x.2.2
def facc (x : Row) : List Value := [.int .u64 x.1.free, .int .u64 x.1.bonded, .int .u64 x.1.dep, x.v]
def r0 : Row := (⟨0, 0, 0, []⟩, none, 0)
def nu (x : Ac) : Row := (x, none, 0)
theorem layC : Lay fch 2 := ⟨fun x => rfl, fun x u hu => by simp [fch] at hu; rcases hu with rfl | rfl <;> rfl, by omega⟩
theorem layA : Lay facc 4 := ⟨fun x => rfl, fun x u hu => by simp [facc, Row.v] at hu; rcases hu with rfl | rfl | rfl | rfl <;> rfl, by omega⟩
theorem info34 : (Try.prog.info? 34).map (fun i => (i.zero, i.size, i.bytes)) = some (some (.agg #[.int .u64 0, .int .u64 0, .int .u64 0, .slice none 0 0]), 4, 48) := by kernel_rfl
theorem info38 : (Try.prog.info? 38).map (fun i => (i.zero, i.size, i.bytes)) = some (some (.agg #[.int .u64 0, .int .i64 0]), 2, 16) := by kernel_rfl
/-- A ledger lies in block g; its accounts in V; the blocks are its own. -/
structure LAt (W : World) (g : Nat) (V : Value) (L : List Row) (tre pot iss : Int) : Prop where
  cell : W.heap[g]? = some (.cells #[V, .int .u64 tre, .int .u64 pot, .int .u64 iss] 64 (0, 0))
  rows : OwnF W 34 4 facc V L
  chs : ∀ i, i < L.length → OwnF W 38 2 fch (L.getD i r0).v (L.getD i r0).1.ch
  v0 : V.ownBlock ≠ some g
  vs : ∀ i k, i < L.length → (L.getD i r0).v.ownBlock = some k → k ≠ g ∧ V.ownBlock ≠ some k
  vv : ∀ i j k, i < L.length → j < L.length → (L.getD i r0).v.ownBlock = some k → (L.getD j r0).v.ownBlock = some k → i = j
/-- The ledger's own blocks. -/
def Mine (g : Nat) (V : Value) (L : List Row) (k : Nat) : Prop := k = g ∨ V.ownBlock = some k ∨ ∃ i, i < L.length ∧ (L.getD i r0).v.ownBlock = some k
namespace LAt
variable {W W' : World} {g : Nat} {V : Value} {L : List Row} {tre pot iss : Int}
theorem chg {F : Nat → Prop} (h : LAt W g V L tre pot iss) (hc : Chg F W W') (hF : ∀ k, Mine g V L k → ¬ F k) : LAt W' g V L tre pot iss :=
  ⟨(hc.block g (heap_lt h.cell) (hF g (.inl rfl))).trans h.cell, h.rows.chg hc (fun k hk => hF k (.inr (.inl hk))), fun i hi => (h.chs i hi).chg hc (fun k hk => hF k (.inr (.inr ⟨i, hi, hk⟩))), h.v0, h.vs, h.vv⟩
theorem keep (h : LAt W g V L tre pot iss) (hc : Chg (fun _ => False) W W') : LAt W' g V L tre pot iss := h.chg hc (fun _ _ => id)
theorem mine_lt (h : LAt W g V L tre pot iss) {k : Nat} (hk : Mine g V L k) : k < W.heap.size := by
  rcases hk with rfl | hk | ⟨i, hi, hk⟩
  · exact heap_lt h.cell
  · exact h.rows.lt hk
  · exact (h.chs i hi).lt hk
theorem getD_snoc (L : List Row) (x : Row) (i : Nat) (h : i < L.length + 1) : (i < L.length ∧ (L ++ [x]).getD i r0 = L.getD i r0) ∨ (i = L.length ∧ (L ++ [x]).getD i r0 = x) := by
  by_cases hi : i < L.length
  · exact .inl ⟨hi, by rw [List.getD_eq_getElem?_getD, List.getD_eq_getElem?_getD, List.getElem?_append_left hi]⟩
  · obtain rfl : i = L.length := by omega
    exact .inr ⟨rfl, by rw [List.getD_eq_getElem?_getD]; simp⟩
/-- A new account, behind all. -/
theorem push (h : LAt W g V L tre pot iss) (x : Ac) (hx : x.ch = []) (hl : L.length ≤ 1000) :
    ∃ A' c' w2, (Builtin.append_ #[62, 62] 62 #[V, .slice (some ⟨W.heap.size, 0, none⟩) 1 1]).run Try.prog (W.alloc (.cells #[.int .u64 x.free, .int .u64 x.bonded, .int .u64 x.dep, .slice none 0 0] 34)) = .ok (.slice A' (L.length + 1) c') w2 ∧
      w2.heap[g]? = some (.cells #[V, .int .u64 tre, .int .u64 pot, .int .u64 iss] 64 (0, 0)) ∧
      LAt (w2.setCell ⟨g, 0, none⟩ (.slice A' (L.length + 1) c')) g (.slice A' (L.length + 1) c') (L ++ [nu x]) tre pot iss ∧ Chg (Mine g V L) W (w2.setCell ⟨g, 0, none⟩ (.slice A' (L.length + 1) c')) ∧
      (∀ k, Mine g (.slice A' (L.length + 1) c') (L ++ [nu x]) k → Mine g V L k ∨ W.heap.size ≤ k) := by
  obtain ⟨A', c', w2, hrun, ho, hg, hat⟩ := h.rows.append1 (P := Try.prog) layA 62 Try.underlying62 info34 rfl (nu x) (by omega) (by omega)
  refine ⟨A', c', w2, ?_, ?_, ?_, ?_, ?_⟩
  · simpa [facc, Row.v, hx, nu] using hrun
  · rw [hg.block g (heap_lt h.cell) (Ne.symm h.v0)]; exact h.cell
  all_goals have hV : (nu x).v = .slice none 0 0 := by simp [nu, Row.v, hx]
  all_goals have hC2 : Chg (fun k => V.ownBlock = some k) W w2 := (Chg.refl _ W).grown hg (fun k hk _ => hk)
  all_goals have hc2 : w2.heap[g]? = some (.cells #[V, .int .u64 tre, .int .u64 pot, .int .u64 iss] 64 (0, 0)) := (hC2.block g (heap_lt h.cell) h.v0).trans h.cell
  all_goals have hC3 : Chg (fun k => k = g) w2 (w2.setCell ⟨g, 0, none⟩ (.slice A' (L.length + 1) c')) := Chg.setCell (F := fun k => k = g) (p := ⟨g, 0, none⟩) (Chg.refl _ w2) (fun _ => rfl) _
  all_goals have hne : ∀ k, Value.ownBlock (.slice A' (L.length + 1) c') = some k → k ≠ g := fun k hk e => (by
      subst e
      rcases hat k hk with h1 | h1
      · exact h.v0 h1
      · have := heap_lt h.cell; omega)
  · refine ⟨by rw [heap_setCell hc2]; rfl, ho.chg hC3 hne, fun i hi => ?_, fun e => hne g e rfl, fun i k hi hk => ?_, fun i j k hi hj hk hk2 => ?_⟩
    · rcases getD_snoc L (nu x) i (by simpa using hi) with ⟨h1, h2⟩ | ⟨h1, h2⟩
      · rw [h2]
        exact ((h.chs i h1).chg hC2 (fun k hk => (h.vs i k h1 hk).2)).chg hC3 (fun k hk => (h.vs i k h1 hk).1)
      · rw [h2, hV]
        rw [show (nu x).1.ch = [] from hx]
        exact OwnF.nil _ _ _ _
    · rcases getD_snoc L (nu x) i (by simpa using hi) with ⟨h1, h2⟩ | ⟨h1, h2⟩
      · rw [h2] at hk
        refine ⟨(h.vs i k h1 hk).1, fun e => ?_⟩
        rcases hat k e with h3 | h3
        · exact (h.vs i k h1 hk).2 h3
        · have := (h.chs i h1).lt hk; omega
      · rw [h2, hV] at hk
        cases hk
    · rcases getD_snoc L (nu x) i (by simpa using hi) with ⟨h1, h2⟩ | ⟨h1, h2⟩
      · rcases getD_snoc L (nu x) j (by simpa using hj) with ⟨h3, h4⟩ | ⟨h3, h4⟩
        · rw [h2] at hk; rw [h4] at hk2
          exact h.vv i j k h1 h3 hk hk2
        · rw [h4, hV] at hk2
          cases hk2
      · rw [h2, hV] at hk
        cases hk
  · exact (hC2.mono (fun k _ hk => .inr (.inl hk))).trans hC3 (fun k _ hk => .inl hk)
  · rintro k (hk | hk | ⟨i, hi, hk⟩)
    · exact .inl (.inl hk)
    · rcases hat k hk with h1 | h1
      · exact .inl (.inr (.inl h1))
      · exact .inr h1
    · rcases getD_snoc L (nu x) i (by simpa using hi) with ⟨h1, h2⟩ | ⟨h1, h2⟩
      · rw [h2] at hk
        exact .inl (.inr (.inr ⟨i, h1, hk⟩))
      · rw [h2, hV] at hk
        cases hk
end LAt
end Go.Proofs.Ytpndkelbchjkiaa
