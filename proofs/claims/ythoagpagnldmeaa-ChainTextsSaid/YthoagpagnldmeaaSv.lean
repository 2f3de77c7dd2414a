/- A chain of texts and the document's, alike. -/
import Derived.Test.YthoagpagnldmeaaRe
import Derived.Test.YthoagpagnldmeaaSs
set_option linter.unusedVariables false
set_option linter.unusedSimpArgs false
namespace Go.Proofs.Ythoagpagnldmeaa.S
open Go.RowKit Go.Ps
theorem enc_size (n : Int) : (Utf8.encode n).size ≤ 4 := by
  unfold Utf8.encode
  simp only
  repeat' split
  all_goals first | (show 1 ≤ 4; omega) | (show 2 ≤ 4; omega) | (show 3 ≤ 4; omega) | (show 4 ≤ 4; omega)
def chS (z : Int) : ByteArray := Utf8.encode (97 + z)
def NmT (X : List Mem) (L : List (Int × Int)) : Prop := X.map (fun x => (x.h, x.v)) = L.map (fun p => (p.1, Value.string (chS p.2)))
theorem NmT.length {X : List Mem} {L : List (Int × Int)} (h : NmT X L) : X.length = L.length := by simpa using congrArg List.length h
theorem NmT.toNm {X : List Mem} {L : List (Int × Int)} (h : NmT X L) : S.Nm X (L.map fun p => (p.1, chS p.2)) := by
  unfold S.Nm
  rw [h, List.map_map]
  rfl
structure Sim (w0 W : World) (g c : Nat) (mp : Option Nat) (X : List Mem) (L : List (Int × Int)) (v : Value) (n : Int) : Prop where
  ch : ChW 106 102 W g mp X n
  nm : NmT X L
  rf : RefW W c v L n
  ac : ¬ Mine g mp X c
  av : ∀ k, v.ownBlock = some k → ¬ Mine g mp X k
  om : ∀ k, Mine g mp X k → w0.heap.size ≤ k
  oc : w0.heap.size ≤ c
  ov : ∀ k, v.ownBlock = some k → w0.heap.size ≤ k
  bl : Below w0.heap.size w0 W
variable {w0 W W1 W2 : World} {g c : Nat} {mp : Option Nat} {X Y : List Mem} {L L' : List (Int × Int)} {v : Value} {n n' : Int} {r : Value}
theorem Below.of_chg {F : Nat → Prop} {a b : World} {B : Nat} (h : Chg F a b) (hB : B ≤ a.heap.size) (hF : ∀ k, k < B → ¬ F k) : Below B a b := h.below (fun k hk => ⟨by omega, hF k hk⟩)
theorem Sim.keep (h : Sim w0 W g c mp X L v n) (hC : Chg (fun _ => False) W W1) : Sim w0 W1 g c mp X L v n :=
  ⟨h.ch.keep hC (fun _ _ => id), h.nm, h.rf.chg hC id (fun _ _ => id), h.ac, h.av, h.om, h.oc, h.ov, h.bl.trans (Below.of_chg hC h.bl.size (fun _ _ => id))⟩
/-- The chain has gone on, the document's has not. -/
structure Mid (w0 W : World) (g c : Nat) (mp : Option Nat) (X : List Mem) (n' : Int) (L : List (Int × Int)) (v : Value) (n : Int) : Prop where
  ch : ChW 106 102 W g mp X n'
  rf : RefW W c v L n
  ac : ¬ Mine g mp X c
  av : ∀ k, v.ownBlock = some k → ¬ Mine g mp X k
  om : ∀ k, Mine g mp X k → w0.heap.size ≤ k
  oc : w0.heap.size ≤ c
  ov : ∀ k, v.ownBlock = some k → w0.heap.size ≤ k
  bl : Below w0.heap.size w0 W
theorem Mid.real (h : Mid w0 W g c mp X n L v n') {m : Int} (hp : ChPost 106 102 r g mp X Y m W W1) : ∃ mp', Mid w0 W1 g c mp' Y m L v n' := by
  obtain ⟨mp', h1, h2, h3⟩ := hp
  have hc := heap_lt h.rf.cell
  refine ⟨mp', h1, h.rf.chg h2 h.ac h.av, fun hm => ?_, fun k hk hm => ?_, fun k hm => ?_, h.oc, h.ov, h.bl.trans (Below.of_chg h2 h.bl.size (fun k hk hm => by have := h.om k hm; omega))⟩
  · rcases h3 c hm with h4 | h4
    · exact h.ac h4
    · omega
  · rcases h3 k hm with h4 | h4
    · exact h.av k hk h4
    · have := h.rf.own.lt hk; omega
  · rcases h3 k hm with h4 | h4
    · exact h.om k h4
    · exact Nat.le_trans h.bl.size h4
theorem Mid.ref {m : Int} {v' : Value} (h : Mid w0 W g c mp X m L v n) (hn : NmT X L') (hr : RefW W1 c v' L' m) (hC : Chg (fun k => k = c) W W1) (hf : ∀ k, v'.ownBlock = some k → W.heap.size ≤ k) : Sim w0 W1 g c mp X L' v' m :=
  ⟨h.ch.keep hC (fun k hk e => h.ac (e ▸ hk)), hn, hr, h.ac, fun k hk hm => by have := hf k hk; have := h.ch.lt hm; omega, h.om, h.oc, fun k hk => Nat.le_trans h.bl.size (hf k hk), h.bl.trans (Below.of_chg hC h.bl.size (fun k hk e => by have := h.oc; omega))⟩
theorem Sim.mid (h : Sim w0 W g c mp X L v n) : Mid w0 W g c mp X n L v n := ⟨h.ch, h.rf, h.ac, h.av, h.om, h.oc, h.ov, h.bl⟩
theorem Mid.sim (h : Mid w0 W g c mp X n L v n) (hn : NmT X L) : Sim w0 W g c mp X L v n := ⟨h.ch, hn, h.rf, h.ac, h.av, h.om, h.oc, h.ov, h.bl⟩
/-! ### handles -/
theorem NmT.split : ∀ {A B : List Mem} {x : Mem} {L : List (Int × Int)}, NmT (A ++ x :: B) L → ∃ LA z LB, L = LA ++ (x.h, z) :: LB ∧ NmT A LA ∧ NmT B LB ∧ x.v = .string (chS z)
  | [], B, x, [], h => by simp [NmT] at h
  | [], B, x, p :: L, h => by
    simp only [NmT, List.nil_append, List.map_cons, List.cons.injEq, Prod.mk.injEq] at h
    obtain ⟨⟨h1, h2⟩, h3⟩ := h
    exact ⟨[], p.2, L, by rw [h1]; rfl, rfl, h3, h2⟩
  | a :: A, B, x, [], h => by simp [NmT] at h
  | a :: A, B, x, p :: L, h => by
    simp only [NmT, List.cons_append, List.map_cons, List.cons.injEq] at h
    obtain ⟨LA, z, LB, rfl, h2, h3, h4⟩ := NmT.split (A := A) (B := B) (x := x) (L := L) h.2
    refine ⟨p :: LA, z, LB, rfl, ?_, h3, h4⟩
    simp only [NmT, List.map_cons, List.cons.injEq]
    exact ⟨h.1, h2⟩
theorem NmT.append {A B : List Mem} {LA LB : List (Int × Int)} (hA : NmT A LA) (hB : NmT B LB) : NmT (A ++ B) (LA ++ LB) := by
  unfold NmT at *
  simp [hA, hB]
theorem NmT.cons {A : List Mem} {LA : List (Int × Int)} (hA : NmT A LA) {x : Mem} {z : Int} (hz : x.v = .string (chS z)) : NmT (x :: A) ((x.h, z) :: LA) := by
  unfold NmT at *
  simp [hA, hz]
theorem NmT.handles {X : List Mem} {L : List (Int × Int)} (h : NmT X L) : X.map (·.h) = L.map (·.1) := by
  have := congrArg (List.map Prod.fst) h
  simpa [Function.comp_def] using this
theorem fndI_none : ∀ {L : List (Int × Int)} {k i : Int}, k ∉ L.map (·.1) → fndI L k i = -1
  | [], k, i, _ => rfl
  | p :: L, k, i, h => by
    simp only [List.map_cons, List.mem_cons, not_or] at h
    unfold fndI
    rw [if_neg (Ne.symm h.1)]
    exact fndI_none h.2
theorem fndI_at : ∀ {LA LB : List (Int × Int)} {k z i : Int}, k ∉ LA.map (·.1) → fndI (LA ++ (k, z) :: LB) k i = i + LA.length
  | [], LB, k, z, i, _ => by simp [fndI]
  | p :: LA, LB, k, z, i, h => by
    simp only [List.map_cons, List.mem_cons, not_or] at h
    rw [List.cons_append, fndI, if_neg (Ne.symm h.1), fndI_at h.2]
    simp
    omega
theorem nmT_none {X : List Mem} {L : List (Int × Int)} {k : Int} (h : NmT X L) (hk : findH X k = none) : fndI L k 0 = -1 := by
  refine fndI_none ?_
  rw [← h.handles]
  simp only [List.mem_map, not_exists, not_and]
  exact fun x hx => findH_none hk x hx
theorem nmT_some {X : List Mem} {L : List (Int × Int)} {k : Int} {x : Mem} (h : NmT X L) (hn : (X.map (·.h)).Nodup) (hk : findH X k = some x) :
    ∃ A B LA z LB, X = A ++ x :: B ∧ L = LA ++ (k, z) :: LB ∧ NmT A LA ∧ NmT B LB ∧ x.v = .string (chS z) ∧ x.h = k ∧ fndI L k 0 = (LA.length : Nat) ∧ A.length = LA.length := by
  obtain ⟨A, B, rfl⟩ := findH_split hk
  obtain ⟨_, hxk⟩ := findH_some hk
  obtain ⟨LA, z, LB, rfl, h2, h3, h4⟩ := h.split
  subst hxk
  refine ⟨A, B, LA, z, LB, rfl, rfl, h2, h3, h4, rfl, ?_, h2.length⟩
  rw [fndI_at]
  · omega
  · rw [← h2.handles]
    simp only [List.map_append, List.map_cons, List.nodup_append, List.nodup_cons, List.mem_map, List.mem_cons] at hn
    rintro hm
    obtain ⟨y, hy, e⟩ := List.mem_map.1 hm
    exact hn.2.2 _ ⟨y, hy, rfl⟩ _ (.inl rfl) e
theorem NmT.snoc {A B : List Mem} {LA LB : List (Int × Int)} (hA : NmT A LA) (hB : NmT B LB) (b : Nat) (h z : Int) : NmT (A ++ ⟨b, h, .string (chS z)⟩ :: B) (LA ++ (h, z) :: LB) := by
  unfold NmT at *
  simp [hA, hB]
end Go.Proofs.Ythoagpagnldmeaa.S
