/- Voters: rows of voters; what only looks. -/
import Derived.Test.YthoagpagnldmeaaVt
set_option linter.unusedVariables false
set_option linter.unusedSimpArgs false
namespace Go.Proofs.Ythoagpagnldmeaa.V
open Go.RowKit Go.Ps
/-- The chains hold the rows' voters; handles given: at most N. -/
def Lk (cs : List Cst) (rows : List (List Vo)) (N : Int) : Prop := cs.map (·.X) = rows.map (fun l => l.map Vo.mem) ∧ ∀ c ∈ cs, 0 ≤ c.n ∧ c.n ≤ N
structure VM (W : World) (g bm : Nat) (tv rv : Value) (T : List Int) (rows : List (List Vo)) (N : Int) (col : Nat → Nat) : Prop where
  ex : ∃ cs, VM0 W g bm tv rv T cs rows.flatten col ∧ Lk cs rows N
  bags : ∀ (i : Nat) (l : List Vo), rows[i]? = some l → ∀ p ∈ l, p.bag = i
  ids : (rows.flatten.map (·.id)).Nodup
  ris : Ris T
  tl : T.length ≤ 100
  len : rows.length = T.length + 1
def findV (rows : List (List Vo)) (k : Int) : Option Vo := rows.flatten.find? (fun p => p.id == k)
theorem findV_some {rows : List (List Vo)} {k : Int} {p : Vo} (h : findV rows k = some p) : p ∈ rows.flatten ∧ p.id = k := ⟨List.mem_of_find?_eq_some h, by simpa using List.find?_some h⟩
theorem findV_none {rows : List (List Vo)} {k : Int} (h : findV rows k = none) : ∀ p ∈ rows.flatten, p.id ≠ k := by
  intro p hp e
  have := List.find?_eq_none.1 h p hp
  simp [e] at this
theorem find_ent (vs : List Vo) (k : Int) : findH (vs.map Vo.ent) k = (vs.find? (fun p => p.id == k)).map Vo.ent := by
  induction vs with
  | nil => rfl
  | cons p vs ih =>
    unfold findH at ih ⊢
    rw [List.map_cons, List.find?_cons, List.find?_cons]
    show (match p.id == k with | true => _ | false => _) = _
    cases p.id == k with
    | true => rfl
    | false => exact ih
def ptrV (o : Option Vo) : Value := ptr (o.map (·.b))
/-- What a place in a set of rows leaves. -/
theorem flat_set {α : Type} : ∀ {rows : List (List α)} {i : Nat} {l : List α}, rows[i]? = some l → ∃ rest, rows.flatten.Perm (l ++ rest) ∧ ∀ l', (rows.set i l').flatten.Perm (l' ++ rest)
  | [], i, l, h => by simp at h
  | a :: rows, 0, l, h => by
    simp at h
    subst h
    exact ⟨rows.flatten, by simp, fun l' => by simp⟩
  | a :: rows, i + 1, l, h => by
    have h' : rows[i]? = some l := by simpa using h
    obtain ⟨rest, h1, h2⟩ := flat_set h'
    refine ⟨a ++ rest, ?_, fun l' => ?_⟩
    · rw [List.flatten_cons]
      refine (h1.append_left a).trans ?_
      rw [← List.append_assoc, ← List.append_assoc]
      exact List.perm_append_comm.append_right rest
    · rw [List.set_cons_succ, List.flatten_cons]
      refine ((h2 l').append_left a).trans ?_
      rw [← List.append_assoc, ← List.append_assoc]
      exact List.perm_append_comm.append_right rest
theorem mem_flat {rows : List (List Vo)} {p : Vo} (h : p ∈ rows.flatten) : ∃ (i : Nat) (l : List Vo), rows[i]? = some l ∧ p ∈ l := by
  obtain ⟨l, hl, hp⟩ := List.mem_flatten.1 h
  obtain ⟨i, hi, rfl⟩ := List.mem_iff_getElem.1 hl
  exact ⟨i, _, List.getElem?_eq_getElem hi, hp⟩
theorem Lk.len {cs : List Cst} {rows : List (List Vo)} {N : Int} (h : Lk cs rows N) : cs.length = rows.length := by simpa using congrArg List.length h.1
theorem Lk.get {cs : List Cst} {rows : List (List Vo)} {N : Int} (h : Lk cs rows N) {i : Nat} {l : List Vo} (hi : rows[i]? = some l) : ∃ c, cs[i]? = some c ∧ c.X = l.map Vo.mem ∧ 0 ≤ c.n ∧ c.n ≤ N := by
  have hlt : i < cs.length := by rw [h.len]; exact (List.getElem?_eq_some_iff.1 hi).1
  have h1 := congrArg (fun l => l[i]?) h.1
  simp only [List.getElem?_map, hi, List.getElem?_eq_getElem hlt, Option.map_some, Option.some.injEq] at h1
  exact ⟨cs[i], List.getElem?_eq_getElem hlt, h1, h.2 _ (List.getElem_mem _)⟩
section
variable {w : World} {g bm : Nat} {tv rv : Value} {T : List Int} {rows : List (List Vo)} {N : Int} {col : Nat → Nat}
theorem VM.keep (h : VM w g bm tv rv T rows N col) {w' : World} {F : Nat → Prop} (hc : Chg F w w') (hF : ∀ k, k < w.heap.size → F k → col k = 0) : VM w' g bm tv rv T rows N col := by
  obtain ⟨cs, h0, hl⟩ := h.ex
  exact ⟨⟨cs, h0.keep hc hF, hl⟩, h.bags, h.ids, h.ris, h.tl, h.len⟩
theorem VM.cell (h : VM w g bm tv rv T rows N col) : w.heap[g]? = some (.cells #[tv, rv, .map (some bm)] 118 (0, 0)) := by obtain ⟨cs, h0, _⟩ := h.ex; exact h0.cell
theorem VM.look (h : VM w g bm tv rv T rows N col) (k : Int) : (Instr.lookup 115 (.map (some bm)) (.int .i64 k) false).run Try.prog w = .ok (ptrV (findV rows k)) w := by
  obtain ⟨cs, h0, _⟩ := h.ex
  obtain ⟨ps, hm, _, hg⟩ := h0.map.get
  have := hm.look Try.underlying115 Try.underlying3 (zero119 w) k false
  simp only [Bool.false_eq_true, if_false] at this
  rw [this, hg, find_ent]
  unfold findV ptrV ptrM
  cases rows.flatten.find? (fun p => p.id == k) <;> rfl
theorem VM.vo (h : VM w g bm tv rv T rows N col) {p : Vo} (hp : p ∈ rows.flatten) : w.heap[p.b]? = some (.cells #[.int .u64 p.stake, .int .i64 (p.bag : Nat), .int .i64 p.h] 124 (0, 0)) := by obtain ⟨cs, h0, _⟩ := h.ex; exact h0.vo p hp
theorem VM.count (h : VM w g bm tv rv T rows N col) : ∃ ps, IMap w bm ps ∧ ps.length = rows.flatten.length := by
  obtain ⟨cs, h0, _⟩ := h.ex
  obtain ⟨ps, hm, h1, _⟩ := h0.map
  exact ⟨ps, hm, by rw [h1, List.length_map]⟩
set_option maxRecDepth 20000 in
theorem find_no {k : Int} (h : VM w g bm tv rv T rows N col) (hk : findV rows k = none) : Calls Try.prog 77 #[.pointer (some ⟨g, 0, none⟩), .int .i64 k] w fun e w' => e = .returned (.tuple #[.pointer none, .int .i64 5]) ∧ w' = w := by
  obtain ⟨x0, x1, x2⟩ := read3 h.cell
  have hr := h.look k
  rw [hk, show ptrV none = .pointer none from rfl] at hr
  have qT : ∀ (w : World) (r : Option Nat), (binOp .eql 115 (.map r) (.map none)).run Try.prog w = .ok (.bool r.isNone) w := fun w r => run_eql_map_nil w _ _ _ r Try.underlying115
  clear h x1 x0 hk
  go_enter Try.func77, Try.ntmps77
  go_wp2
  go_ret2
  exact ⟨rfl, rfl⟩
set_option maxRecDepth 20000 in
theorem find_yes {k : Int} {p : Vo} (h : VM w g bm tv rv T rows N col) (hk : findV rows k = some p) : Calls Try.prog 77 #[.pointer (some ⟨g, 0, none⟩), .int .i64 k] w fun e w' => e = .returned (.tuple #[.pointer (some ⟨p.b, 0, none⟩), .int .i64 0]) ∧ w' = w := by
  obtain ⟨x0, x1, x2⟩ := read3 h.cell
  have hr := h.look k
  rw [hk, show ptrV (some p) = .pointer (some ⟨p.b, 0, none⟩) from rfl] at hr
  have qT : ∀ (w : World) (r : Option Nat), (binOp .eql 115 (.map r) (.map none)).run Try.prog w = .ok (.bool r.isNone) w := fun w r => run_eql_map_nil w _ _ _ r Try.underlying115
  clear h x1 x0 hk
  go_enter Try.func77, Try.ntmps77
  go_wp2
  go_ret2
  exact ⟨rfl, rfl⟩
set_option maxRecDepth 20000 in
theorem vbag_any (s : Int) (h : VM w g bm tv rv T rows N col) : Calls Try.prog 78 #[.pointer (some ⟨g, 0, none⟩), .int .u64 s] w fun e w' => e = .returned (.int .i64 (bagOf T s : Nat)) ∧ w' = w := by
  obtain ⟨cs, h0, _⟩ := h.ex
  obtain ⟨A, c, htv, hr, _⟩ := h0.thr.form
  have hb := bag_any c hr h.ris h.tl s
  obtain ⟨x0, x1, x2⟩ := read3 h.cell
  rw [htv] at x0
  obtain ⟨n, hn⟩ : ∃ n, n = T.length := ⟨_, rfl⟩
  obtain ⟨r, hrr⟩ : ∃ r, r = bagOf T s := ⟨_, rfl⟩
  rw [← hn] at hb x0
  rw [← hrr] at hb ⊢
  clear h h0 x1 x2 hr htv hn hrr
  go_enter Try.func78, Try.ntmps78
  go_wp2_with fail
  refine hb.mono ?_
  rintro e w' ⟨rfl, rfl⟩
  clear hb
  go_wp2
  go_ret
  exact ⟨rfl, rfl⟩
theorem len_v (h : VM w g bm tv rv T rows N col) : Calls Try.prog 52 #[.pointer (some ⟨g, 0, none⟩)] w fun e w' => e = .returned (.int .i64 rows.flatten.length) ∧ w' = w := by
  obtain ⟨ps, hm, hl⟩ := h.count
  rw [← hl]
  exact vlen h.cell hm
set_option maxRecDepth 20000 in
theorem bag_no {k : Int} (h : VM w g bm tv rv T rows N col) (hk : findV rows k = none) : Calls Try.prog 48 #[.pointer (some ⟨g, 0, none⟩), .int .i64 k] w fun e w' => e = .returned (.tuple #[.int .i64 0, .bool false]) ∧ w' = w := by
  have hf := find_no h hk
  clear h hk
  go_enter Try.func48, Try.ntmps48
  go_wp2_with fail
  refine hf.mono ?_
  rintro e w' ⟨rfl, rfl⟩
  go_wp2
  go_ret2
  exact ⟨rfl, rfl⟩
set_option maxRecDepth 20000 in
theorem bag_yes {k : Int} {p : Vo} (h : VM w g bm tv rv T rows N col) (hk : findV rows k = some p) : Calls Try.prog 48 #[.pointer (some ⟨g, 0, none⟩), .int .i64 k] w fun e w' => e = .returned (.tuple #[.int .i64 (p.bag : Nat), .bool true]) ∧ w' = w := by
  have hf := find_yes h hk
  obtain ⟨y0, y1, y2⟩ := read3 (h.vo (findV_some hk).1)
  obtain ⟨b, hb⟩ : ∃ b, b = p.bag := ⟨_, rfl⟩
  rw [← hb] at y1 ⊢
  clear h hk y0 y2 hb
  go_enter Try.func48, Try.ntmps48
  go_wp2_with fail
  refine hf.mono ?_
  rintro e w' ⟨rfl, rfl⟩
  clear hf
  go_wp2
  go_ret2
  exact ⟨rfl, rfl⟩
set_option maxRecDepth 20000 in
theorem stake_no {k : Int} (h : VM w g bm tv rv T rows N col) (hk : findV rows k = none) : Calls Try.prog 53 #[.pointer (some ⟨g, 0, none⟩), .int .i64 k] w fun e w' => e = .returned (.tuple #[.int .u64 0, .bool false]) ∧ w' = w := by
  have hf := find_no h hk
  clear h hk
  go_enter Try.func53, Try.ntmps53
  go_wp2_with fail
  refine hf.mono ?_
  rintro e w' ⟨rfl, rfl⟩
  go_wp2
  go_ret2
  exact ⟨rfl, rfl⟩
set_option maxRecDepth 20000 in
theorem stake_yes {k : Int} {p : Vo} (h : VM w g bm tv rv T rows N col) (hk : findV rows k = some p) : Calls Try.prog 53 #[.pointer (some ⟨g, 0, none⟩), .int .i64 k] w fun e w' => e = .returned (.tuple #[.int .u64 p.stake, .bool true]) ∧ w' = w := by
  have hf := find_yes h hk
  obtain ⟨y0, y1, y2⟩ := read3 (h.vo (findV_some hk).1)
  obtain ⟨b, hb⟩ : ∃ b, b = p.stake := ⟨_, rfl⟩
  rw [← hb] at y0 ⊢
  clear h hk y1 y2 hb
  go_enter Try.func53, Try.ntmps53
  go_wp2_with fail
  refine hf.mono ?_
  rintro e w' ⟨rfl, rfl⟩
  clear hf
  go_wp2
  go_ret2
  exact ⟨rfl, rfl⟩
end
end Go.Proofs.Ythoagpagnldmeaa.V
