/- A ledger plainly: its places; move. -/
import Derived.Test.YtpndkelbchjkiaaLg
set_option linter.unusedVariables false
set_option linter.unusedSimpArgs false
namespace Go.Proofs.Ytpndkelbchjkiaa
open Go.RowKit Go.Ps
structure S where
  acc : List Ac
  tre : Int
  pot : Int
  iss : Int
def Ac.get (a : Ac) : Nat → Int
  | 0 => a.free
  | 1 => a.bonded
  | _ => a.dep
def Ac.put (a : Ac) (x : Int) : Nat → Ac
  | 0 => { a with free := x }
  | 1 => { a with bonded := x }
  | _ => { a with dep := x }
def a0 : Ac := ⟨0, 0, 0, []⟩
inductive Pc where
  | tre
  | pot
  | acc (i j : Nat)
def S.get (s : S) : Pc → Int
  | .tre => s.tre
  | .pot => s.pot
  | .acc i j => (s.acc.getD i a0).get j
def S.put (s : S) (x : Int) : Pc → S
  | .tre => { s with tre := x }
  | .pot => { s with pot := x }
  | .acc i j => { s with acc := s.acc.set i ((s.acc.getD i a0).put x j) }
def S.ok (s : S) : Pc → Prop
  | .acc i j => i < s.acc.length ∧ j < 3
  | _ => True
def adr (g b : Nat) : Pc → Addr
  | .tre => ⟨g, 1, none⟩
  | .pot => ⟨g, 2, none⟩
  | .acc i j => ⟨b, i * 4 + j, none⟩
def S.hd (s : S) : List Value := [.int .u64 s.tre, .int .u64 s.pot, .int .u64 s.iss]
def S.hd2 (s : S) : List Value := [.int .u64 s.tre, .int .u64 s.pot]
def Row.ac (x : Row) : Ac := x.1
def mkR (a : Ac) (A : Option Addr) (c : Nat) : Row := (a, A, c)
theorem fst_getD (L : List Row) (i : Nat) : (L.map Row.ac).getD i a0 = (L.getD i r0).1 := by
  simp only [List.getD_eq_getElem?_getD, List.getElem?_map]
  cases L[i]? <;> rfl
/-- The first cells of a ledger are these. -/
def Hds (hd : S → List Value) : Prop := hd = S.hd ∨ hd = S.hd2
theorem Hds.iss {hd : S → List Value} (h : Hds hd) (s : S) (a : List Ac) : hd { s with acc := a } = hd s := by rcases h with rfl | rfl <;> rfl
section
variable {tG tA tC : TypeId} {W : World} {g : Nat} {V : Value} {L : List Row} {s : S} {hd : S → List Value}
/-- A ledger of the plain state s. -/
structure LS (tG tA tC : TypeId) (hd : S → List Value) (W : World) (g : Nat) (V : Value) (L : List Row) (s : S) : Prop where
  at_ : GAt tG tA tC W g (hd s) V L
  acc : L.map Row.ac = s.acc
theorem LS.len (h : LS tG tA tC hd W g V L s) : L.length = s.acc.length := by rw [← h.acc, List.length_map]
theorem LS.get (hh : Hds hd) (h : LS tG tA tC hd W g V L s) {P : Pc} (hP : s.ok P) {b : Nat} (hb : ∀ i, i < L.length → V.ownBlock = some b) : W.cell? (adr g b P) = some (.int .u64 (s.get P)) ∧ W.frozen? (adr g b P) = false := by
  cases P with
  | tre => exact ⟨cell_of h.at_.cell 1 (by rcases hh with rfl | rfl <;> rfl), frozen_of h.at_.cell 1⟩
  | pot => exact ⟨cell_of h.at_.cell 2 (by rcases hh with rfl | rfl <;> rfl), frozen_of h.at_.cell 2⟩
  | acc i j =>
    obtain ⟨h1, h2⟩ := hP
    rw [← h.len] at h1
    obtain ⟨b', c, cur, e1, e2, e3, e4, e5, e6⟩ := h.at_.acc h1
    obtain rfl : b = b' := by have := (hb i h1).symm.trans e2; simpa using this
    refine ⟨cell_of e4 (i * 4 + j) ?_, frozen_of e4 _⟩
    rw [e6 i j h1 (by omega)]
    show _ = some (Value.int .u64 ((s.acc.getD i a0).get j))
    rw [← h.acc, fst_getD]
    match j, h2 with
    | 0, _ => rfl
    | 1, _ => rfl
    | 2, _ => rfl
theorem LS.put (hh : Hds hd) (h : LS tG tA tC hd W g V L s) {P : Pc} (hP : s.ok P) {b : Nat} (hb : ∀ i, i < L.length → V.ownBlock = some b) (x : Int) :
    ∃ L', LS tG tA tC hd (W.setCell (adr g b P) (.int .u64 x)) g V L' (s.put x P) ∧ L'.length = L.length ∧ Chg (Mine g V L) W (W.setCell (adr g b P) (.int .u64 x)) ∧ ∀ k, Mine g V L' k → Mine g V L k ∨ W.heap.size ≤ k := by
  have hg : ∀ (p : Addr), p.block = g → Chg (Mine g V L) W (W.setCell p (.int .u64 x)) := fun p hp => Chg.setCell (Chg.refl _ W) (fun _ => .inl hp) _
  cases P with
  | tre => exact ⟨L, ⟨by rcases hh with rfl | rfl <;> exact h.at_.setHd 0 _, h.acc⟩, rfl, hg _ rfl, fun k hk => .inl hk⟩
  | pot => exact ⟨L, ⟨by rcases hh with rfl | rfl <;> exact h.at_.setHd 1 _, h.acc⟩, rfl, hg _ rfl, fun k hk => .inl hk⟩
  | acc i j =>
    obtain ⟨h1, h2⟩ := hP
    rw [← h.len] at h1
    obtain ⟨⟨a, A, c⟩, hx⟩ : ∃ y : Ac × Option Addr × Nat, L.getD i r0 = mkR y.1 y.2.1 y.2.2 := ⟨L.getD i r0, rfl⟩
    have h3 := h.at_.setAcc (x := mkR (a.put x j) A c) (u := .int .u64 x) h1 (hb i h1) (j := j) (by omega) (by
      rw [hx]
      match j, h2 with
      | 0, _ => rfl
      | 1, _ => rfl
      | 2, _ => rfl) (by
      rw [hx]
      match j, h2 with
      | 0, _ => rfl
      | 1, _ => rfl
      | 2, _ => rfl) (by
      rw [hx]
      match j, h2 with
      | 0, _ => rfl
      | 1, _ => rfl
      | 2, _ => rfl)
    refine ⟨L.set i (mkR (a.put x j) A c), ⟨?_, ?_⟩, ?_, h3.2⟩
    · rw [show hd (s.put x (.acc i j)) = hd s from hh.iss s _]
      exact h3.1
    · show _ = s.acc.set i ((s.acc.getD i a0).put x j)
      rw [List.map_set, ← h.acc, fst_getD, hx]
      rfl
    · simp
end
/-- move, plainly. -/
def S.mv (s : S) (P Q : Pc) (n : Int) : S × Int :=
  if s.get P < n then (s, 8) else ((s.put (s.get P - n) P).put (((s.put (s.get P - n) P).get Q + n) % 18446744073709551616) Q, 0)
theorem put_ok (s : S) (x : Int) (P Q : Pc) (h : s.ok Q) : (s.put x P).ok Q := by
  cases P <;> cases Q <;> simp_all [S.ok, S.put]
/-- What a step of a ledger's leaves. -/
def Stp (tG tA tC : TypeId) (hd : S → List Value) (w w' : World) (g : Nat) (V : Value) (L : List Row) (s' : S) : Prop :=
  ∃ L', LS tG tA tC hd w' g V L' s' ∧ L'.length = L.length ∧ Chg (Mine g V L) w w' ∧ ∀ k, Mine g V L' k → Mine g V L k ∨ w.heap.size ≤ k
section
variable {tG tA tC : TypeId} {w w1 w2 : World} {g : Nat} {V : Value} {L : List Row} {s s' : S} {hd : S → List Value}
theorem Stp.refl (h : LS tG tA tC hd w g V L s) (hC : Chg (fun _ => False) w w1) : Stp tG tA tC hd w w1 g V L s := ⟨L, ⟨h.at_.keep hC, h.acc⟩, rfl, hC.mono (fun _ _ h => h.elim), fun k hk => .inl hk⟩
theorem LS.keep (h : LS tG tA tC hd w g V L s) (hC : Chg (fun _ => False) w w1) : LS tG tA tC hd w1 g V L s := ⟨h.at_.keep hC, h.acc⟩
theorem Stp.after (hC : Chg (fun _ => False) w w1) (h : Stp tG tA tC hd w1 w2 g V L s) : Stp tG tA tC hd w w2 g V L s := by
  obtain ⟨L', h1, h2, h3, h4⟩ := h
  exact ⟨L', h1, h2, (hC.mono (fun _ _ h => h.elim)).trans h3 (fun _ _ h => h), fun k hk => (h4 k hk).imp id (fun h => Nat.le_trans hC.size h)⟩
theorem Stp.then (h : Stp tG tA tC hd w w1 g V L s) (k : ∀ L', LS tG tA tC hd w1 g V L' s → L'.length = L.length → Stp tG tA tC hd w1 w2 g V L' s') : Stp tG tA tC hd w w2 g V L s' := by
  obtain ⟨L', h1, h2, h3, h4⟩ := h
  obtain ⟨L'', k1, k2, k3, k4⟩ := k L' h1 h2
  refine ⟨L'', k1, k2.trans h2, h3.trans k3 (fun j hj hm => (h4 j hm).elim id (fun h => absurd hj (by omega))), fun j hj => ?_⟩
  rcases k4 j hj with h | h
  · exact h4 j h
  · exact .inr (Nat.le_trans h3.size h)
theorem Stp.more (h : Stp tG tA tC hd w w1 g V L s) (hC : Chg (fun _ => False) w1 w2) : Stp tG tA tC hd w w2 g V L s := h.then (fun L' hL _ => Stp.refl hL hC)
theorem Stp.put (hh : Hds hd) (h : LS tG tA tC hd w g V L s) {P : Pc} (hP : s.ok P) {b : Nat} (hb : ∀ i, i < L.length → V.ownBlock = some b) (x : Int) : Stp tG tA tC hd w (w.setCell (adr g b P) (.int .u64 x)) g V L (s.put x P) := h.put hh hP hb x
end
/-- What move does to the memory. -/
def MovePost (p q : Addr) (x n : Int) (w : World) (e : Ending) (w' : World) : Prop :=
  if x < n then e = .returned (.int .i64 8) ∧ w = w' else e = .returned (.int .i64 0) ∧ ∃ y, (w.setCell p (.int .u64 (x - n))).cell? q = some (.int .u64 y) ∧ w' = (w.setCell p (.int .u64 (x - n))).setCell q (.int .u64 ((y + n) % 18446744073709551616))
set_option maxHeartbeats 1000000 in
theorem move_any (p q : Addr) (x y n : Int) (w : World) (hp : w.cell? p = some (.int .u64 x)) (hq : w.cell? q = some (.int .u64 y)) (fp : w.frozen? p = false) (fq : w.frozen? q = false) (hx : U64 x) (hn : U64 n) :
    Calls Try.prog 32 #[.pointer (some p), .pointer (some q), .int .u64 n] w (MovePost p q x n w) := by
  have hs := sub_any x n w hx hn
  unfold MovePost
  by_cases h0 : x < n
  · simp only [if_pos h0] at hs ⊢
    clear hx hn h0
    go_enter Try.func32, Try.ntmps32
    go_wp2_with fail
    refine hs.mono ?_
    rintro e w' ⟨rfl, rfl⟩
    go_wp2
    go_ret
    exact ⟨rfl, rfl⟩
  · simp only [if_neg h0] at hs ⊢
    obtain ⟨d, hd⟩ : ∃ d, x - n = d := ⟨_, rfl⟩
    rw [hd] at hs
    simp only [hd]
    have h1 : ∃ y1, (w.setCell p (.int .u64 d)).cell? q = some (.int .u64 y1) := by
      by_cases e : q = p
      · subst e
        exact ⟨d, World.cell?_setCell_same _ _ _ hp⟩
      · exact ⟨y, by rw [World.cell?_setCell_other _ _ _ _ (fun h => e h.symm)]; exact hq⟩
    obtain ⟨y1, hy1⟩ := h1
    have f1 : (w.setCell p (.int .u64 d)).frozen? q = false := by simpa using fq
    obtain ⟨m, hm⟩ : ∃ m, IntKind.u64.wrap (y1 + n) = m := ⟨_, rfl⟩
    have HM : Hid (m = (y1 + n) % 18446744073709551616) := Lib.hid (by rw [← hm, wrap64u])
    clear hx hn h0 hq fq hd
    go_enter Try.func32, Try.ntmps32
    go_wp2_with fail
    refine hs.mono ?_
    rintro e w' ⟨rfl, rfl⟩
    go_wp2
    go_ret
    exact ⟨rfl, y1, hy1, by rw [HM.out]⟩
end Go.Proofs.Ytpndkelbchjkiaa
