/- Voters: the order of all, plainly. -/
import Derived.Test.YthoagpagnldmeaaWd
set_option linter.unusedVariables false
set_option linter.unusedSimpArgs false
namespace Go.Proofs.Ythoagpagnldmeaa.V
open Go.RowKit Go.Ps
/-- All voters in their order: the greatest bag first. -/
def ord (rows : List (List Vo)) : List Vo := rows.reverse.flatten
theorem ord_succ (rows : List (List Vo)) (l : List Vo) : ord (rows ++ [l]) = l ++ ord rows := by simp [ord]
theorem ord_perm (rows : List (List Vo)) : (ord rows).Perm rows.flatten := (List.reverse_perm rows).flatten
theorem take_getD (rows : List (List Vo)) {n : Nat} (h : n < rows.length) : rows.take (n + 1) = rows.take n ++ [rows.getD n []] := by
  rw [List.take_add_one, List.getD_eq_getElem?_getD, List.getElem?_eq_getElem h]
  rfl
theorem bags_succ (rows : List (List Vo)) (n : Nat) : bagsOf rows (n + 1) = (if rows.getD n [] = [] then [] else [((n : Int), (rows.getD n []).map (·.id))]) ++ bagsOf rows n := rfl
theorem ids_ord (rows : List (List Vo)) : ∀ n, n ≤ rows.length → idsOf (bagsOf rows n) = (ord (rows.take n)).map (·.id)
  | 0, _ => by simp [bagsOf, idsOf, ord]
  | n + 1, h => by
    rw [take_getD rows h, ord_succ, List.map_append, ← ids_ord rows n (by omega)]
    rw [bags_succ]
    unfold idsOf
    rw [List.flatMap_append]
    congr 1
    split
    · rename_i e; rw [e]; rfl
    · simp
theorem rows_ord {rows : List (List Vo)} (hb : ∀ (i : Nat) (l : List Vo), rows[i]? = some l → ∀ p ∈ l, p.bag = i) : ∀ n, n ≤ rows.length → (bagsOf rows n).flatMap (fun k => k.2.map (fun id => (id, k.1))) = (ord (rows.take n)).map (fun p => (p.id, (p.bag : Int)))
  | 0, _ => by simp [bagsOf, ord]
  | n + 1, h => by
    rw [take_getD rows h, ord_succ, List.map_append, ← rows_ord hb n (by omega)]
    rw [bags_succ, List.flatMap_append]
    congr 1
    have hg : rows[n]? = some (rows.getD n []) := by rw [List.getD_eq_getElem?_getD, List.getElem?_eq_getElem h]; rfl
    have hm : (rows.getD n []).map (fun p => (p.id, (p.bag : Int))) = (rows.getD n []).map (fun p => (p.id, (n : Int))) := List.map_congr_left (fun p hp => by rw [hb n _ hg p hp])
    rw [hm]
    split
    · rename_i e; rw [e]; rfl
    · simp [Function.comp_def]
theorem find_nd {rows : List (List Vo)} (h : (rows.flatten.map (·.id)).Nodup) {p : Vo} (hp : p ∈ rows.flatten) : findV rows p.id = some p := by
  obtain ⟨q, hq⟩ := findV_ex (rows := rows) ⟨p, hp, rfl⟩
  obtain ⟨h1, h2⟩ := findV_some hq
  rw [hq]
  congr 1
  obtain ⟨i, hi, rfl⟩ := List.mem_iff_getElem.1 hp
  obtain ⟨j, hj, rfl⟩ := List.mem_iff_getElem.1 h1
  have : i = j := by
    refine (List.getElem_inj (h₀ := by rw [List.length_map]; exact hi) (h₁ := by rw [List.length_map]; exact hj) h).1 ?_
    simp only [List.getElem_map]
    exact h2.symm
  subst this
  rfl
theorem all_ord {rows : List (List Vo)} (h : (rows.flatten.map (·.id)).Nodup) : allOf rows = (ord rows).map (fun p => (p.id, p.stake)) := by
  unfold allOf
  rw [ids_ord rows _ (Nat.le_refl _), List.take_length, List.map_map]
  refine List.map_congr_left (fun p hp => ?_)
  have hp2 := (ord_perm rows).mem_iff.1 hp
  show fA rows p.id = _
  unfold fA stakeOf
  rw [find_nd h hp2]
  rfl
theorem rowsOf_ord {rows : List (List Vo)} (hb : ∀ (i : Nat) (l : List Vo), rows[i]? = some l → ∀ p ∈ l, p.bag = i) : rowsOf rows = (ord rows).map (fun p => (p.id, (p.bag : Int))) := by
  unfold rowsOf
  rw [rows_ord hb _ (Nat.le_refl _), List.take_length]
theorem ord_len (rows : List (List Vo)) : (ord rows).length = rows.flatten.length := (ord_perm rows).length_eq
theorem row_len {rows : List (List Vo)} {l : List Vo} (h : l ∈ rows) : l.length ≤ rows.flatten.length := by
  obtain ⟨a, b, rfl⟩ := List.append_of_mem h
  simp
  omega
end Go.Proofs.Ythoagpagnldmeaa.V
