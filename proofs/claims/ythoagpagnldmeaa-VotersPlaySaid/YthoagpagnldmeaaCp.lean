/- A chain in memory: linking and unlinking, plainly. -/
import Derived.Test.YthoagpagnldmeaaCh
set_option linter.unusedVariables false
set_option linter.unusedSimpArgs false
namespace Go.Proofs.Ythoagpagnldmeaa
open Go.RowKit Go.Ps
variable {tm tc : TypeId} {V W : World} {g : Nat} {mp : Option Nat} {n : Int} {A B : List Mem} {m : Mem} {qa pb f l : Option Nat}
/-- All blocks are apart. -/
structure Apt (g : Nat) (A : List Mem) (m : Mem) (B : List Mem) : Prop where
  g1 : ∀ x ∈ A, x.b ≠ g
  g2 : m.b ≠ g
  g3 : ∀ x ∈ B, x.b ≠ g
  am : ∀ x ∈ A, x.b ≠ m.b
  bm : ∀ x ∈ B, x.b ≠ m.b
  ab : ∀ x ∈ A, ∀ y ∈ B, x.b ≠ y.b
  na : (A.map (·.b)).Nodup
  nb : (B.map (·.b)).Nodup
theorem Apt.of {A B : List Mem} {m : Mem} (h : ((A ++ m :: B).map (·.b)).Nodup) (hg : ∀ x ∈ A ++ m :: B, x.b ≠ g) : Apt g A m B := by
  simp only [List.map_append, List.map_cons, List.nodup_append, List.nodup_cons, List.mem_map, List.mem_cons] at h
  obtain ⟨h1, ⟨h2, h3⟩, h4⟩ := h
  refine ⟨fun x hx => hg x (by simp [hx]), hg m (by simp), fun x hx => hg x (by simp [hx]), fun x hx => h4 _ ⟨x, hx, rfl⟩ _ (.inl rfl), fun x hx e => h2 ⟨x, hx, e⟩, fun x hx y hy => h4 _ ⟨x, hx, rfl⟩ _ (.inr ⟨y, hy, rfl⟩), h1, h3⟩
theorem Apt.of2 {A B : List Mem} {m : Mem} (h : ((A ++ B).map (·.b)).Nodup) (hg : ∀ x ∈ A ++ B, x.b ≠ g) (hm : m.b ≠ g) (hx : ∀ x ∈ A ++ B, x.b ≠ m.b) : Apt g A m B := by
  simp only [List.map_append, List.nodup_append, List.mem_map] at h
  obtain ⟨h1, h3, h4⟩ := h
  exact ⟨fun x hx => hg x (by simp [hx]), hm, fun x hx => hg x (by simp [hx]), fun x h => hx x (by simp [h]), fun x h => hx x (by simp [h]), fun x hx y hy => h4 _ ⟨x, hx, rfl⟩ _ ⟨y, hy, rfl⟩, h1, h3⟩
theorem Apt.nodup (h : Apt g A m B) : ((A ++ m :: B).map (·.b)).Nodup := by
  simp only [List.map_append, List.map_cons, List.nodup_append, List.nodup_cons, List.mem_map, List.mem_cons]
  refine ⟨h.na, ⟨fun ⟨x, hx, e⟩ => h.bm x hx e, h.nb⟩, ?_⟩
  rintro _ ⟨x, hx, rfl⟩ _ (rfl | ⟨y, hy, rfl⟩)
  · exact h.am x hx
  · exact h.ab x hx y hy
theorem Apt.nodup2 (h : Apt g A m B) : ((A ++ B).map (·.b)).Nodup := by
  simp only [List.map_append, List.nodup_append, List.mem_map]
  refine ⟨h.na, h.nb, ?_⟩
  rintro _ ⟨x, hx, rfl⟩ _ ⟨y, hy, rfl⟩
  exact h.ab x hx y hy
/-- Between: the two parts of a row and a member. -/
structure St (tm tc : TypeId) (V : World) (g : Nat) (mp : Option Nat) (n : Int) (A : List Mem) (m : Mem) (B : List Mem) (qa pb f l pm qm : Option Nat) : Prop where
  cell : V.heap[g]? = some (.cells #[ptr f, ptr l, .map mp, .int .i64 n] tc (0, 0))
  sa : Seg tm V none A qa
  sb : Seg tm V pb B none
  node : Node tm V m pm qm
variable {pm qm : Option Nat}
theorem St.ofRow (h : Row tm tc V g mp (A ++ m :: B) n) : St tm tc V g mp n A m B (some m.b) (some m.b) (hd (A ++ m :: B) none) (lst none (A ++ m :: B)) (lst none A) (hd B none) := by
  have h1 := seg_append.1 h.seg
  exact ⟨h.cell, h1.1, h1.2.2, h1.2.1⟩
theorem St.ofRow2 (h : Row tm tc V g mp (A ++ B) n) (hm : Node tm V m pm qm) : St tm tc V g mp n A m B (hd B none) (lst none A) (hd (A ++ B) none) (lst none (A ++ B)) pm qm := by
  have h1 := seg_append.1 h.seg
  exact ⟨h.cell, h1.1, h1.2, hm⟩
theorem St.toRow (h : St tm tc V g mp n A m B (some m.b) (some m.b) (hd (A ++ m :: B) none) (lst none (A ++ m :: B)) (lst none A) (hd B none)) (a : Apt g A m B) : Row tm tc V g mp (A ++ m :: B) n :=
  ⟨h.cell, seg_append.2 ⟨h.sa, h.node, h.sb⟩, a.nodup, fun x hx => by
    simp only [List.mem_append, List.mem_cons] at hx
    rcases hx with hx | rfl | hx
    · exact a.g1 x hx
    · exact a.g2
    · exact a.g3 x hx⟩
theorem St.toRow2 (h : St tm tc V g mp n A m B (hd B none) (lst none A) (hd (A ++ B) none) (lst none (A ++ B)) pm qm) (a : Apt g A m B) : Row tm tc V g mp (A ++ B) n :=
  ⟨h.cell, seg_append.2 ⟨h.sa, h.sb⟩, a.nodup2, fun x hx => by
    simp only [List.mem_append] at hx
    rcases hx with hx | hx
    · exact a.g1 x hx
    · exact a.g3 x hx⟩
theorem St.next (h : St tm tc V g mp n A m B qa pb f l pm qm) (a : Apt g A m B) (q : Option Nat) : St tm tc (V.setCell ⟨m.b, 3, none⟩ (ptr q)) g mp n A m B qa pb f l pm q :=
  ⟨by rw [heap_setCell_ne (Ne.symm a.g2)]; exact h.cell, h.sa.cellNe a.am _, h.sb.cellNe a.bm _, node_next h.node⟩
theorem St.ahead (h : St tm tc V g mp n A m B qa pb f l pm qm) (a : Apt g A m B) (p : Option Nat) : St tm tc (V.setCell ⟨m.b, 2, none⟩ (ptr p)) g mp n A m B qa pb f l p qm :=
  ⟨by rw [heap_setCell_ne (Ne.symm a.g2)]; exact h.cell, h.sa.cellNe a.am _, h.sb.cellNe a.bm _, node_ahead h.node⟩
theorem St.setF (h : St tm tc V g mp n [] m B qa pb f l pm qm) (a : Apt g [] m B) (f' qa' : Option Nat) : St tm tc (V.setCell ⟨g, 0, none⟩ (ptr f')) g mp n [] m B qa' pb f' l pm qm :=
  ⟨by rw [heap_setCell h.cell]; rfl, trivial, h.sb.cellNe a.g3 _, h.node.same (heap_setCell_ne a.g2 _)⟩
theorem St.setL (h : St tm tc V g mp n A m [] qa pb f l pm qm) (a : Apt g A m []) (l' pb' : Option Nat) : St tm tc (V.setCell ⟨g, 1, none⟩ (ptr l')) g mp n A m [] qa pb' f l' pm qm :=
  ⟨by rw [heap_setCell h.cell]; rfl, h.sa.cellNe a.g1 _, trivial, h.node.same (heap_setCell_ne a.g2 _)⟩
theorem St.setA {x : Mem} (h : St tm tc V g mp n (A ++ [x]) m B qa pb f l pm qm) (a : Apt g (A ++ [x]) m B) (q : Option Nat) : St tm tc (V.setCell ⟨x.b, 3, none⟩ (ptr q)) g mp n (A ++ [x]) m B q pb f l pm qm := by
  have hna := a.na
  simp only [List.map_append, List.map_cons, List.map_nil, List.nodup_append, List.mem_map] at hna
  exact ⟨by rw [heap_setCell_ne (Ne.symm (a.g1 x (by simp)))]; exact h.cell, h.sa.setNext (fun y hy => hna.2.2 _ ⟨y, hy, rfl⟩ _ (by simp)), h.sb.cellNe (fun y hy => Ne.symm (a.ab x (by simp) y hy)) _, h.node.same (heap_setCell_ne (Ne.symm (a.am x (by simp))) _)⟩
theorem St.setB {x : Mem} (h : St tm tc V g mp n A m (x :: B) qa pb f l pm qm) (a : Apt g A m (x :: B)) (p : Option Nat) : St tm tc (V.setCell ⟨x.b, 2, none⟩ (ptr p)) g mp n A m (x :: B) qa p f l pm qm := by
  have hnb := a.nb
  simp only [List.map_cons, List.nodup_cons, List.mem_map] at hnb
  exact ⟨by rw [heap_setCell_ne (Ne.symm (a.g3 x (by simp)))]; exact h.cell, h.sa.cellNe (fun y hy => a.ab y hy x (by simp)) _, h.sb.setAhead (fun y hy e => hnb.1 ⟨y, hy, e⟩), h.node.same (heap_setCell_ne (Ne.symm (a.bm x (by simp))) _)⟩
theorem split_snoc (A : List Mem) : A = [] ∨ ∃ A' x, A = A' ++ [x] := by
  rcases List.eq_nil_or_concat A with h | ⟨A', x, h⟩
  · exact .inl h
  · exact .inr ⟨A', x, by simpa using h⟩
end Go.Proofs.Ythoagpagnldmeaa
