/- Voters: what a script of calls keeps; the order by bags. -/
import Derived.Test.YthoagpagnldmeaaWf
import Derived.Test.YthoagpagnldmeaaWj
import Derived.Test.YthoagpagnldmeaaWb
import Derived.Test.YthoagpagnldmeaaWk
set_option linter.unusedVariables false
set_option linter.unusedSimpArgs false
namespace Go.Proofs.Ythoagpagnldmeaa.V
open Go.RowKit Go.Ps
/-- Voters after at most k calls. -/
def GV (E : Nat → Prop) (w0 : World) (g : Nat) (T : List Int) (R : List (List Vo) → Prop) (k : Nat) (W : World) : Prop :=
  ∃ bm tv rv rows N col, VM W g bm tv rv T rows N col ∧ N ≤ k ∧ rows.flatten.length ≤ k ∧ R rows ∧ Chg (fun j => ¬ E j) w0 W ∧ ∀ j, E j → j < w0.heap.size ∧ col j = 0
theorem stp_chg {E : Nat → Prop} {w0 W W' : World} {col col' : Nat → Nat} (hC : Chg (fun j => ¬ E j) w0 W) (hc : ∀ j, E j → j < w0.heap.size ∧ col j = 0) (h : Stp col W col' W') : Chg (fun j => ¬ E j) w0 W' ∧ ∀ j, E j → j < w0.heap.size ∧ col' j = 0 :=
  ⟨hC.trans h.1 (fun j hj f e => f (hc j e).2), fun j e => ⟨(hc j e).1, by rw [h.2 j (Nat.lt_of_lt_of_le (hc j e).1 hC.size)]; exact (hc j e).2⟩⟩
theorem GV.keep {E : Nat → Prop} {w0 W W' : World} {g : Nat} {T : List Int} {R : List (List Vo) → Prop} {k m : Nat} (h : GV E w0 g T R k W) (hC : Chg (fun _ => False) W W') (hk : k ≤ m) : GV E w0 g T R m W' := by
  obtain ⟨bm, tv, rv, rows, N, col, h1, h2, h3, h4, h5, h6⟩ := h
  exact ⟨bm, tv, rv, rows, N, col, h1.keep hC (fun _ _ f => f.elim), by omega, by omega, h4, h5.trans hC (fun _ _ f => f.elim), h6⟩
def Tru (_ : List (List Vo)) : Prop := True
section
variable {E : Nat → Prop} {w0 W : World} {g : Nat} {T : List Int} {k : Nat}
def GPost (E : Nat → Prop) (w0 : World) (g : Nat) (T : List Int) (R : List (List Vo) → Prop) (k : Nat) (e : Ending) (W' : World) : Prop := ∃ r, e = .returned (.int .i64 r) ∧ GV E w0 g T R k W'
theorem ins_gv (id s : Int) (h : GV E w0 g T Tru k W) (hk : k < 100000) : Calls Try.prog 35 #[.pointer (some ⟨g, 0, none⟩), .int .i64 id, .int .u64 s] W (GPost E w0 g T Tru (k + 1)) := by
  obtain ⟨bm, tv, rv, rows, N, col, h1, h2, h3, -, h5, h6⟩ := h
  cases hf : findV rows id with
  | some p => exact (insert_old s h1 hf).mono (by rintro e w' ⟨rfl, rfl⟩; exact ⟨_, rfl, bm, tv, rv, rows, N, col, h1, by omega, by omega, trivial, h5, h6⟩)
  | none =>
    refine (insert_any s h1 hf (by omega)).mono ?_
    rintro e w' ⟨rfl, p, l, col', e1, e2, e3, e4, e5, e6⟩
    obtain ⟨a, b⟩ := stp_chg h5 h6 e6
    exact ⟨_, rfl, bm, tv, rv, _, _, col', e5, by omega, by rw [(set_perm e1).length_eq, List.length_cons]; omega, trivial, a, b⟩
theorem rem_gv (id : Int) (h : GV E w0 g T Tru k W) : Calls Try.prog 40 #[.pointer (some ⟨g, 0, none⟩), .int .i64 id] W (GPost E w0 g T Tru (k + 1)) := by
  obtain ⟨bm, tv, rv, rows, N, col, h1, h2, h3, -, h5, h6⟩ := h
  cases hf : findV rows id with
  | none => exact (remove_no h1 hf).mono (by rintro e w' ⟨rfl, rfl⟩; exact ⟨_, rfl, bm, tv, rv, rows, N, col, h1, by omega, by omega, trivial, h5, h6⟩)
  | some p =>
    refine (remove_any h1 hf).mono ?_
    rintro e w' ⟨rfl, A, B, col', e1, e2, e3⟩
    obtain ⟨a, b⟩ := stp_chg h5 h6 e3
    obtain ⟨rest, p1, p2⟩ := flat_at e1
    refine ⟨_, rfl, bm, tv, rv, _, _, col', e2, by omega, ?_, trivial, a, b⟩
    have l1 := p1.length_eq
    rw [(p2 _).length_eq]
    simp only [List.length_append, List.length_cons] at l1 ⊢
    omega
theorem upd_gv (id s : Int) (h : GV E w0 g T Tru k W) : Calls Try.prog 42 #[.pointer (some ⟨g, 0, none⟩), .int .i64 id, .int .u64 s] W (GPost E w0 g T Tru (k + 1)) := by
  obtain ⟨bm, tv, rv, rows, N, col, h1, h2, h3, -, h5, h6⟩ := h
  cases hf : findV rows id with
  | none => exact (update_no s h1 hf).mono (by rintro e w' ⟨rfl, rfl⟩; exact ⟨_, rfl, bm, tv, rv, rows, N, col, h1, by omega, by omega, trivial, h5, h6⟩)
  | some p =>
    refine (update_any s h1 hf).mono ?_
    rintro e w' ⟨rfl, A, B, col', e1, e2, e3⟩
    obtain ⟨a, b⟩ := stp_chg h5 h6 e3
    obtain ⟨rest, p1, p2⟩ := flat_at e1
    refine ⟨_, rfl, bm, tv, rv, _, _, col', e2, by omega, ?_, trivial, a, b⟩
    have l1 := p1.length_eq
    rw [(p2 _).length_eq]
    simp only [List.length_append, List.length_cons] at l1 ⊢
    omega
theorem fro_gv (id j : Int) (h : GV E w0 g T Tru k W) : Calls Try.prog 46 #[.pointer (some ⟨g, 0, none⟩), .int .i64 id, .int .i64 j] W (GPost E w0 g T Tru (k + 1)) := by
  obtain ⟨bm, tv, rv, rows, N, col, h1, h2, h3, -, h5, h6⟩ := h
  have no : findV rows id = none ∨ findV rows j = none → Calls Try.prog 46 #[.pointer (some ⟨g, 0, none⟩), .int .i64 id, .int .i64 j] W (GPost E w0 g T Tru (k + 1)) := fun hn =>
    (front_no h1 hn).mono (by rintro e w' ⟨rfl, rfl⟩; exact ⟨_, rfl, bm, tv, rv, rows, N, col, h1, by omega, by omega, trivial, h5, h6⟩)
  cases hf : findV rows id with
  | none => exact no (.inl hf)
  | some p =>
    cases hq : findV rows j with
    | none => exact no (.inr hq)
    | some q =>
      by_cases hc : p = q ∨ p.bag ≠ q.bag ∨ p.stake ≤ q.stake
      · refine (front_state h1 hf hq hc).mono ?_
        rintro e w' ⟨rfl, hC⟩
        exact ⟨_, rfl, bm, tv, rv, rows, N, col, h1.keep hC (fun _ _ f => f.elim), by omega, by omega, trivial, h5.trans hC (fun _ _ f => f.elim), h6⟩
      · obtain ⟨c1, c2, c3⟩ : p ≠ q ∧ p.bag = q.bag ∧ ¬ p.stake ≤ q.stake := by
          refine ⟨fun e => hc (.inl e), ?_, fun e => hc (.inr (.inr e))⟩
          by_cases e : p.bag = q.bag
          · exact e
          · exact absurd (.inr (.inl e)) hc
        refine (front_any h1 hf hq c1 c2 c3).mono ?_
        rintro e w' ⟨rfl, A, B, C, D, col', e1, e0, e2, e3⟩
        obtain ⟨a, b⟩ := stp_chg h5 h6 e3
        obtain ⟨rest, p1, p2⟩ := flat_at e1
        refine ⟨_, rfl, bm, tv, rv, _, _, col', e2, by omega, ?_, trivial, a, b⟩
        have l1 := p1.length_eq
        have l0 := congrArg List.length e0
        rw [(p2 _).length_eq]
        simp only [List.length_append, List.length_cons] at l1 l0 ⊢
        omega
/-- The voters' numbers are L; those of the first j lie in their bags. -/
def Set' (T : List Int) (L : List Int) (j : Nat) (rows : List (List Vo)) : Prop := (rows.flatten.map (·.id)).Perm L ∧ ∀ q ∈ rows.flatten, q.id ∈ L.take j → q.bag = bagOf T q.stake
theorem reb_perm {rows : List (List Vo)} {A B l : List Vo} {p q : Vo} {n : Nat} (hi : rows[p.bag]? = some (A ++ p :: B)) (hl : (rows.set p.bag (A ++ B))[n]? = some l) :
    ∃ rest, rows.flatten.Perm (p :: rest) ∧ ((rows.set p.bag (A ++ B)).set n (l ++ [q])).flatten.Perm (q :: rest) := by
  obtain ⟨rest, p1, p2⟩ := flat_at hi
  obtain ⟨rest2, r1, r2⟩ := flat_set hl
  refine ⟨A ++ (B ++ rest), p1.trans List.perm_middle, (r2 _).trans ?_⟩
  rw [List.append_assoc, List.singleton_append]
  refine List.perm_middle.trans (List.Perm.cons q ?_)
  refine r1.symm.trans ((p2 _).trans ?_)
  simp
theorem reb_gv {L : List Int} {j : Nat} {id : Int} (hid : L[j]? = some id) (h : GV E w0 g T (Set' T L j) k W) (hk : k < 100000) : Calls Try.prog 44 #[.pointer (some ⟨g, 0, none⟩), .int .i64 id] W (GPost E w0 g T (Set' T L (j + 1)) (k + 1)) := by
  obtain ⟨bm, tv, rv, rows, N, col, h1, h2, h3, ⟨h4, h7⟩, h5, h6⟩ := h
  have htk : L.take (j + 1) = L.take j ++ [id] := by rw [List.take_add_one, hid]; rfl
  obtain ⟨p, hp⟩ := findV_ex (rows := rows) (id := id) (by
    have := h4.mem_iff.2 (List.mem_of_getElem? hid)
    obtain ⟨p, hp, e⟩ := List.mem_map.1 this
    exact ⟨p, hp, e⟩)
  obtain ⟨hpm, hpi⟩ := findV_some hp
  by_cases hb : bagOf T p.stake = p.bag
  · refine (rebag_same h1 hp hb).mono ?_
    rintro e w' ⟨rfl, rfl⟩
    refine ⟨_, rfl, bm, tv, rv, rows, N, col, h1, by omega, by omega, ⟨h4, fun q hq hqi => ?_⟩, h5, h6⟩
    rw [htk] at hqi
    rcases List.mem_append.1 hqi with hqi | hqi
    · exact h7 q hq hqi
    · have e1 := find_nd h1.ids hq
      rw [List.mem_singleton.1 hqi, hp] at e1
      obtain rfl := Option.some.inj e1
      exact hb.symm
  · refine (rebag_any h1 hp hb (by omega)).mono ?_
    rintro e w' ⟨rfl, A, B, l, hh, mb, col', e1, e2, e3, e4⟩
    obtain ⟨a, b⟩ := stp_chg h5 h6 e4
    obtain ⟨rest, p1, p2⟩ := reb_perm (q := { p with bag := bagOf T p.stake, h := hh, mb := mb }) e1 e2
    refine ⟨_, rfl, bm, tv, rv, _, _, col', e3, by omega, ?_, ⟨?_, fun q hq hqi => ?_⟩, a, b⟩
    · have l1 := p1.length_eq
      rw [p2.length_eq]
      simp only [List.length_cons] at l1 ⊢
      omega
    · refine (p2.map _).trans (List.Perm.trans ?_ h4)
      exact (p1.map (·.id)).symm
    · rcases List.mem_cons.1 (p2.mem_iff.1 hq) with rfl | hq2
      · rfl
      · have hq3 : q ∈ rows.flatten := p1.mem_iff.2 (List.mem_cons_of_mem _ hq2)
        rw [htk] at hqi
        rcases List.mem_append.1 hqi with hqi | hqi
        · exact h7 q hq3 hqi
        · exfalso
          have nd := ((p1.map Vo.id).nodup_iff).1 h1.ids
          rw [List.map_cons, List.nodup_cons] at nd
          exact nd.1 (List.mem_map.2 ⟨q, hq2, by rw [List.mem_singleton.1 hqi, hpi]⟩)
end
/-- Greater bags stand ahead. -/
theorem ord_sorted {rows : List (List Vo)} (hb : ∀ (i : Nat) (l : List Vo), rows[i]? = some l → ∀ p ∈ l, p.bag = i) : ∀ n, n ≤ rows.length → (ord (rows.take n)).Pairwise (fun p q => q.bag ≤ p.bag) ∧ ∀ p ∈ ord (rows.take n), p.bag < n
  | 0, _ => by simp [ord]
  | n + 1, h => by
    obtain ⟨h1, h2⟩ := ord_sorted hb n (by omega)
    have hg : rows[n]? = some (rows.getD n []) := by rw [List.getD_eq_getElem?_getD, List.getElem?_eq_getElem h]; rfl
    rw [take_getD rows h, ord_succ]
    refine ⟨List.pairwise_append.2 ⟨?_, h1, fun p hp q hq => ?_⟩, fun p hp => ?_⟩
    · refine List.pairwise_of_forall_mem_list ?_
      intro p hp q hq
      rw [hb n _ hg p hp, hb n _ hg q hq]
      exact Nat.le_refl _
    · rw [hb n _ hg p hp]
      have := h2 q hq
      omega
    · rcases List.mem_append.1 hp with hp | hp
      · rw [hb n _ hg p hp]; omega
      · have := h2 p hp; omega
end Go.Proofs.Ythoagpagnldmeaa.V
