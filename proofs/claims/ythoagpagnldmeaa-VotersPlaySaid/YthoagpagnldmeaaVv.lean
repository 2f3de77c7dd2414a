/- Voters: Insert. -/
import Derived.Test.YthoagpagnldmeaaVu
set_option linter.unusedVariables false
set_option linter.unusedSimpArgs false
namespace Go.Proofs.Ythoagpagnldmeaa.V
open Go.RowKit Go.Ps
section
variable {w : World} {g bm : Nat} {tv rv : Value} {T : List Int} {rows : List (List Vo)} {N : Int} {col : Nat → Nat}
theorem VM0.row {cs : List Cst} {vs : List Vo} (h : VM0 w g bm tv rv T cs vs col) {i : Nat} {c : Cst} (hi : cs[i]? = some c) :
    ∃ gr cr, rv = .slice (some ⟨gr, 0, none⟩) cs.length cr ∧ col gr = 4 ∧ w.cell? ⟨gr, i, none⟩ = some (.pointer (some ⟨c.g, 0, none⟩)) := by
  have hlt := (List.getElem?_eq_some_iff.1 hi).1
  obtain ⟨gr, cr, cur, hvv, hvo, hcb, _, _, hcc⟩ := h.rows.at_ layP 0 (by rw [List.length_map]; omega)
  refine ⟨gr, cr, by rw [hvv, List.length_map], h.c4 gr hvo, cell_of hcb i ?_⟩
  have := hcc i 0 (by rw [List.length_map]; exact hlt) (by omega)
  rw [Nat.mul_one, Nat.add_zero] at this
  rw [this, List.getD_eq_getElem?_getD, List.getElem?_map, hi]
  rfl
theorem Lk.set {cs : List Cst} (h : Lk cs rows N) {i : Nat} {c : Cst} {l : List Vo} {M : Int} (hM : N ≤ M) (hX : c.X = l.map Vo.mem) (hn : 0 ≤ c.n ∧ c.n ≤ M) : Lk (cs.set i c) (rows.set i l) M := by
  refine ⟨?_, fun d hd => ?_⟩
  · rw [List.map_set, List.map_set, h.1, hX]
  · rcases List.mem_or_eq_of_mem_set hd with h1 | rfl
    · have := h.2 d h1; omega
    · exact hn
theorem bags_set {i : Nat} {l' : List Vo} (h : ∀ (i : Nat) (l : List Vo), rows[i]? = some l → ∀ p ∈ l, p.bag = i) (hl : ∀ p ∈ l', p.bag = i) : ∀ (j : Nat) (l : List Vo), (rows.set i l')[j]? = some l → ∀ p ∈ l, p.bag = j := by
  intro j l hj p hp
  rw [List.getElem?_set] at hj
  by_cases e : i = j
  · subst e
    simp only [if_true] at hj
    split at hj
    · cases hj; exact hl p hp
    · cases hj
  · simp only [e, if_false] at hj
    exact h j l hj p hp
/-- A new voter at its bag's end. -/
theorem VM.ins {cs : List Cst} {w1 w4 : World} {c : Cst} {l : List Vo} {p : Vo} {col' : Nat → Nat} {mp' : Option Nat} (h : VM w g bm tv rv T rows N col) (hl : Lk cs rows N) (hi : rows[p.bag]? = some l) (hX : c.X = l.map Vo.mem) (hc : 0 ≤ c.n ∧ c.n ≤ N) (hh : p.h = c.n + 1) (hk : findV rows p.id = none)
    (h0 : VM0 w4 g bm tv rv T (cs.set p.bag ⟨c.g, mp', c.X ++ ⟨p.mb, c.n + 1, .int .i64 p.id⟩ :: [], c.n + 1⟩) (p :: rows.flatten) col') : VM w4 g bm tv rv T (rows.set p.bag (l ++ [p])) (N + 1) col' := by
  obtain ⟨rest, hp1, hp2⟩ := flat_set hi
  have hp : (p :: rows.flatten).Perm (rows.set p.bag (l ++ [p])).flatten := by
    refine ((hp1.cons p).trans ?_).trans (hp2 _).symm
    rw [List.append_assoc, List.singleton_append]
    exact List.perm_middle.symm
  refine ⟨⟨_, h0.perm hp, hl.set (by omega) ?_ ⟨by simp; omega, by simp; omega⟩⟩, bags_set h.bags (fun q hq => ?_), ?_, h.ris, h.tl, by rw [List.length_set]; exact h.len⟩
  · rw [List.map_append, ← hX]
    simp [Vo.mem, hh]
  · rcases List.mem_append.1 hq with hq | hq
    · exact h.bags _ l hi q hq
    · rw [List.mem_singleton.1 hq]
  · refine ((hp.map _).nodup_iff).1 ?_
    rw [List.map_cons, List.nodup_cons]
    refine ⟨fun hm => ?_, h.ids⟩
    obtain ⟨q, hq, e⟩ := List.mem_map.1 hm
    exact findV_none hk q hq e
def InsPost (g bm : Nat) (tv rv : Value) (T : List Int) (rows : List (List Vo)) (N : Int) (col : Nat → Nat) (k s : Int) (w w' : World) : Prop :=
  ∃ p l col', rows[p.bag]? = some l ∧ p.id = k ∧ p.stake = s ∧ p.bag = bagOf T s ∧ VM w' g bm tv rv T (rows.set p.bag (l ++ [p])) (N + 1) col' ∧ Stp col w col' w'
set_option maxRecDepth 20000 in
theorem insert_old {k : Int} {p : Vo} (s : Int) (h : VM w g bm tv rv T rows N col) (hk : findV rows k = some p) : Calls Try.prog 35 #[.pointer (some ⟨g, 0, none⟩), .int .i64 k, .int .u64 s] w fun e w' => e = .returned (.int .i64 6) ∧ w' = w := by
  have hf := find_yes h hk
  clear h hk
  go_enter Try.func35, Try.ntmps35
  go_wp2_with fail
  refine hf.mono ?_
  rintro e w' ⟨rfl, rfl⟩
  clear hf
  go_wp2
  go_ret
  exact ⟨rfl, rfl⟩
set_option maxRecDepth 20000 in
set_option maxHeartbeats 4000000 in
theorem insert_any {k : Int} (s : Int) (h : VM w g bm tv rv T rows N col) (hk : findV rows k = none) (hN : N < 100000) : Calls Try.prog 35 #[.pointer (some ⟨g, 0, none⟩), .int .i64 k, .int .u64 s] w fun e w' => e = .returned (.int .i64 0) ∧
    InsPost g bm tv rv T rows N col k s w w' := by
  have hf := find_no h hk
  have hb := vbag_any s h
  obtain ⟨cs, h0, hl⟩ := h.ex
  obtain ⟨m, hm⟩ : ∃ m, m = bagOf T s := ⟨_, rfl⟩
  have hmr : m < rows.length := by have := bagOf_le T s; rw [h.len]; omega
  obtain ⟨l, hi⟩ : ∃ l, rows[m]? = some l := ⟨_, List.getElem?_eq_getElem hmr⟩
  obtain ⟨c, hc, hX, hn0, hnN⟩ := hl.get hi
  obtain ⟨gr, cr, hrv, hgr, hcell⟩ := h0.row hc
  obtain ⟨L, hL⟩ : ∃ L, L = cs.length := ⟨_, rfl⟩
  have hmL : m < L := by rw [hL, hl.len]; exact hmr
  obtain ⟨x0, x1, x2⟩ := read3 h0.cell
  have hgg : col g ≠ 6 + m := by rw [h0.c1]; omega
  have hcc := h0.cc m c hc
  have hla := last_any k (ChW.same (W' := w.drew) (h0.ch m c hc) (fun _ _ => rfl)) hn0 (by omega)
  obtain ⟨gc, hgc⟩ : ∃ gc, gc = c.g := ⟨_, rfl⟩
  obtain ⟨nn, hnn⟩ : ∃ nn, nn = c.n := ⟨_, rfl⟩
  rw [← hm] at hb
  have x1' := x1
  rw [hrv, ← hL] at x1
  rw [← hgc] at hcell hla
  rw [← hnn] at hla
  have HH := Lib.hid (⟨h, h0, hl, hm, hi, hX, hn0, hnN, hc, hrv, hgr, hgg, hcc, hL, hgc, hnn, x1'⟩ : _ ∧ _ ∧ _ ∧ _ ∧ _ ∧ _ ∧ _ ∧ _ ∧ _ ∧ _ ∧ _ ∧ _ ∧ _ ∧ _ ∧ _ ∧ _ ∧ _)
  have HK := Lib.hid hk
  clear h h0 hl hm hi hX hn0 hnN hc hrv hgr hgg hcc hL hmr x0 hgc hnn hk x1'
  go_enter Try.func35, Try.ntmps35
  go_wp2_with fail
  refine hf.mono ?_
  rintro e w' ⟨rfl, hww⟩
  obtain rfl : w = w' := hww.symm
  go_wp2_with fail
  refine hb.mono ?_
  rintro e w' ⟨rfl, hww⟩
  obtain rfl : w = w' := hww.symm
  clear hf hb
  go_wp2_with fail
  refine J.wp_region_seq (fun W => W.cell? ⟨g, 1, none⟩ = some (.slice (some ⟨gr, 0, none⟩) L cr) ∧ W.cell? ⟨g, 2, none⟩ = some (.map (some bm)) ∧ W.cell? ⟨gr, m, none⟩ = some (.pointer (some ⟨gc, 0, none⟩))) [(0, 0), (1, 0), (2, 0), (3, 0), (4, 0), (5, 0), (6, 0), (7, 0), (8, 0), (9, 0), (10, 0), (11, 0), (12, 0), (13, 0), (14, 0), (15, 1), (16, 0), (17, 1), (18, 1)] (by kernel_rfl) (by kernel_rfl) (by kernel_rfl) ⟨x1, x2, hcell⟩ ?_
  iterate 15 (apply J.look (by rfl) (by rfl); (focus (intro W hW; obtain ⟨hW1, hW2, hW3⟩ := hW; go_simp; exact HasV.val rfl)); simp only [Act.put, List.setIfInBounds_toArray, List.set_cons_zero, List.set_cons_succ])
  refine J.link (fun u W => u = .int .i64 (nn + 1) ∧ ∃ b, ChPost 95 54 undef gc c.mp c.X (c.X ++ ⟨b, nn + 1, .int .i64 k⟩ :: []) (nn + 1) w.drew W) (by rfl) (by rfl) ?_ (fun u W hR => ?_) ?_
  · go_simp
    refine J.HasR.call (hla.mono ?_)
    rintro e W2 ⟨b, rfl, hp⟩
    exact ⟨_, rfl, rfl, b, hp⟩
  · obtain ⟨_, b, mp', _, hC, _⟩ := hR
    obtain ⟨h, h0, hl, hm, hi, hX, hn0, hnN, hc, hrv, hgr, hgg, hcc, hL, hgc, hnn, x1'⟩ := HH.out
    rw [hgc] at hC
    refine ⟨chg_cell hC x1 (fun f => hgg (hcc _ f)), chg_cell hC x2 (fun f => hgg (hcc _ f)), chg_cell hC hcell (fun f => ?_)⟩
    have := hcc _ f
    rw [hgr] at this
    omega
  rintro u W1 ⟨rfl, b, hch⟩
  simp only [Act.put, List.setIfInBounds_toArray, List.set_cons_zero, List.set_cons_succ]
  obtain ⟨h, h0, hl, hm, hi, hX, hn0, hnN, hc, hrv, hgr, hgg, hcc, hL, hgc, hnn, x1'⟩ := HH.out
  have hdr : Chg (fun _ => False) w w.drew := (Chg.refl _ w).drew
  rw [hgc, hnn] at hch
  obtain ⟨mp', col1, h1, hst1⟩ := (h0.keep hdr (fun _ _ f => f.elim)).chain hc hch
  obtain ⟨p, hp⟩ : ∃ p : Vo, p = { id := k, stake := s, bag := m, h := nn + 1, b := W1.heap.size, mb := b } := ⟨_, rfl⟩
  obtain ⟨w4, hrun, h4, hst4⟩ := h1.put (p := p) (by rw [hp]) (fun q hq e => findV_none HK.out q hq (by rw [e, hp]))
  have hfin : InsPost g bm tv rv T rows N col k s w w4 := by
    have h4' : VM0 w4 g bm tv rv T (cs.set p.bag ⟨c.g, mp', c.X ++ ⟨p.mb, c.n + 1, .int .i64 p.id⟩ :: [], c.n + 1⟩) (p :: rows.flatten) (fun k => if k = W1.heap.size then 5 else col1 k) := by
      have e : p.bag = m := by rw [hp]
      have e2 : p.mb = b := by rw [hp]
      have e3 : p.id = k := by rw [hp]
      rw [e, e2, e3]
      exact h4
    have hvm := VM.ins (w1 := W1) h hl (by rw [hp]; exact hi) hX ⟨hn0, hnN⟩ (by rw [hp, hnn]) (by rw [hp]; exact HK.out) h4'
    exact ⟨p, l, _, by rw [hp]; exact hi, by rw [hp], by rw [hp], by rw [hp]; exact hm, hvm, (Stp.trans ⟨hdr.mono (fun _ _ f => f.elim), fun _ _ => rfl⟩ hst1).trans hst4⟩
  have HF := Lib.hid hfin
  obtain ⟨y0, y1, y2⟩ := read3 h1.cell
  obtain ⟨gr', cr', e1, e2, y3⟩ := h1.row (i := m) (c := ⟨c.g, mp', c.X ++ ⟨b, c.n + 1, .int .i64 k⟩ :: [], c.n + 1⟩) (by rw [List.getElem?_set_self (by rw [← hL]; exact hmL)])
  rw [hrv] at e1
  simp only [Value.slice.injEq, Option.some.injEq, Addr.mk.injEq, and_true] at e1
  obtain ⟨e1, -⟩ := e1
  rw [← e1] at y3
  rw [hrv, ← hL] at y1
  have y3' : W1.cell? ⟨gr, m, none⟩ = some (.pointer (some ⟨gc, 0, none⟩)) := by rw [hgc]; exact y3
  rw [hp] at hrun
  clear hch h h0 hl hm hi hX hn0 hnN hc hrv hgr hgg hcc hL hgc hnn x1' hdr h1 hst1 h4 hst4 hfin hla y0 y3 e1 e2 hp
  iterate 1 (apply J.look (by rfl) (by rfl); (focus (intro W hW; obtain ⟨hW1, hW2, hW3⟩ := hW; go_simp; exact HasV.val rfl)); simp only [Act.put, List.setIfInBounds_toArray, List.set_cons_zero, List.set_cons_succ])
  refine J.link (fun u W => u = .pointer (some ⟨W1.heap.size, 0, none⟩) ∧ W = W1.alloc (.cells #[.int .u64 s, .int .i64 m, .int .i64 (nn + 1)] 124)) (by rfl) (by rfl) ?_ (fun u W hR => by rw [hR.2]; exact ⟨chg_cell ((Chg.refl (fun _ => False) W1).alloc _) y1 id, chg_cell ((Chg.refl (fun _ => False) W1).alloc _) y2 id, chg_cell ((Chg.refl (fun _ => False) W1).alloc _) y3' id⟩) ?_
  · go_simp
    exact J.HasR.val ⟨rfl, rfl⟩
  rintro u W ⟨rfl, rfl⟩
  simp only [Act.put, List.setIfInBounds_toArray, List.set_cons_zero, List.set_cons_succ]
  refine J.final (fun u W => u = undef ∧ W = w4) (by rfl) (by rfl) (by kernel_rfl) ?_ ?_
  · go_simp
    exact J.HasR.skip ⟨rfl, rfl⟩
  rintro u W ⟨rfl, hW⟩
  obtain rfl : w4 = W := hW.symm
  simp only [Act.put, List.setIfInBounds_toArray, List.set_cons_zero, List.set_cons_succ]
  refine J.fin ?_
  clear hrun x1 x2 hcell y1 y2 y3'
  go_wp2
  go_ret
  exact ⟨rfl, HF.out⟩
end
end Go.Proofs.Ythoagpagnldmeaa.V
