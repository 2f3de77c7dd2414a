/- Voters: rows, each voter with its bag. -/
import Derived.Test.YthoagpagnldmeaaWa
import Derived.Test.YthoagpagnldmeaaRk
set_option linter.unusedVariables false
set_option linter.unusedSimpArgs false
namespace Go.Proofs.Ythoagpagnldmeaa.V
open Go.RowKit Go.Ps
attribute [local go_sem] Oper.semAt_some
/-- Rows of a call's own. -/
def NewF {α : Type} (te : TypeId) (sz : Nat) (f : α → List Value) (w w' : World) (v : Value) (l : List α) : Prop := OwnF w' te sz f v l ∧ (∀ k, v.ownBlock = some k → w.heap.size ≤ k) ∧ Chg (fun _ => False) w w'
section
variable {α : Type} {te t : TypeId} {sz : Nat} {f : α → List Value} {w w1 w2 : World} {v : Value} {l : List α}
theorem NewF.nil (te : TypeId) (sz : Nat) (f : α → List Value) (w : World) : NewF te sz f w w (.slice none 0 0) [] := ⟨OwnF.nil _ _ _ _, (fun k hk => by cases hk), Chg.refl _ _⟩
theorem NewF.chg (h : NewF te sz f w w1 v l) (hc : Chg (fun _ => False) w1 w2) : NewF te sz f w w2 v l := ⟨h.1.chg hc (fun _ _ => id), h.2.1, h.2.2.trans hc (fun _ _ f => f)⟩
theorem NewF.after (hc : Chg (fun _ => False) w w1) (h : NewF te sz f w1 w2 v l) : NewF te sz f w w2 v l := ⟨h.1, fun k hk => Nat.le_trans hc.size (h.2.1 k hk), hc.trans h.2.2 (fun _ _ f => f)⟩
theorem NewF.form3 (h : NewF te sz f w w1 v l) : ∃ A n c, v = .slice A n c ∧ n = l.length ∧ n ≤ c ∧ ReadsF w1 f A l := by
  obtain ⟨A, c, h1, h2, h3, _⟩ := h.1.form
  exact ⟨A, _, c, h1, rfl, h2, h3⟩
theorem NewF.push {A : Option Addr} {L c : Nat} (h : NewF te sz f w w1 (.slice A L c) l) (hf : Lay f sz) (ht : Try.prog.underlying t = some (.slice te)) {z : Value} {bytes : Nat} (hinfo : (Try.prog.info? te).map (fun i => (i.zero, i.size, i.bytes)) = some (some z, sz, bytes)) (hzs : z.cells.size = sz) (hL : L = l.length) (x : α)
    (hm : ((L + 1) + (L + 1) / 4 + 192) * bytes ≤ 281474976710656) (hby : 1 ≤ bytes) (ty : TypeId) :
    ∃ A' c' w2, (Builtin.append_ #[t, t] ty #[.slice A L c, .slice (some ⟨w1.heap.size, 0, none⟩) 1 1]).run Try.prog (w1.alloc (.cells (f x).toArray te)) = .ok (.slice A' (L + 1) c') w2 ∧ NewF te sz f w w2 (.slice A' (L + 1) c') (l ++ [x]) := by
  subst hL
  obtain ⟨A', c', w2, hrun, ho, hg, hat⟩ := h.1.append1 (P := Try.prog) hf ty ht hinfo hzs x hm hby
  refine ⟨A', c', w2, hrun, ho, fun k hk => ?_, h.2.2.grown hg (fun k hk hlt => by have := h.2.1 k hk; omega)⟩
  rcases hat k hk with h1 | h1
  · exact h.2.1 k h1
  · exact Nat.le_trans h.2.2.size h1
theorem NewF.app {A B : Option Addr} {L c n cB : Nat} {m : List α} (h : NewF te sz f w w1 (.slice A L c) l) (hf : Lay f sz) (ht : Try.prog.underlying t = some (.slice te)) {z : Value} {bytes : Nat} (hinfo : (Try.prog.info? te).map (fun i => (i.zero, i.size, i.bytes)) = some (some z, sz, bytes)) (hzs : z.cells.size = sz) (hL : L = l.length) (hr : ReadsF w1 f B m) (hn : n = m.length)
    (hm : ((L + n) + (L + n) / 4 + 192) * bytes ≤ 281474976710656) (hby : 1 ≤ bytes) (ty : TypeId) :
    ∃ A' c' w2, (Builtin.append_ #[t, t] ty #[.slice A L c, .slice B n cB]).run Try.prog w1 = .ok (.slice A' (L + n) c') w2 ∧ NewF te sz f w w2 (.slice A' (L + n) c') (l ++ m) := by
  subst hL
  subst hn
  obtain ⟨A', c', w2, hrun, ho, hg, hat⟩ := h.1.appendF (P := Try.prog) hf ty ht hinfo hzs cB hr hm hby
  refine ⟨A', c', w2, hrun, ho, fun k hk => ?_, h.2.2.grown hg (fun k hk hlt => by have := h.2.1 k hk; omega)⟩
  rcases hat with h1 | h1
  · exact h.2.1 k (h1 ▸ hk)
  · have := h1.symm.trans hk
    simp at this
    have := h.2.2.size
    omega
end
theorem Coll.app {α : Type} {ts te : TypeId} {sz : Nat} {f : α → List Value} {B : Nat} {w0 W : World} {pre : List α} (n₀ : Nat) (h : Coll ts te sz f B w0 pre W) (hf : Lay f sz) (ht : Try.prog.underlying ts = some (.slice te)) {z : Value} {bytes : Nat} (hinfo : (Try.prog.info? te).map (fun i => (i.zero, i.size, i.bytes)) = some (some z, sz, bytes)) (hzs : z.cells.size = sz) {A0 : Option Addr} {m : List α} {n c0 : Nat} (hr : ReadsF W f A0 m) (hn : n = m.length)
    (hm : ((pre.length + m.length) + (pre.length + m.length) / 4 + 192) * bytes ≤ 281474976710656) (hby : 1 ≤ bytes) :
    ∃ A L c A' c' w2, L = pre.length ∧ W.heap[B]? = some (.cells #[.slice A L c] ts (0, 0)) ∧
      (Builtin.append_ #[ts, ts] ts #[.slice A L c, .slice A0 n c0]).run Try.prog W = .ok (.slice A' (L + n) c') w2 ∧
      w2.heap[B]? = some (.cells #[.slice A L c] ts (0, 0)) ∧
      (w2.setCell ⟨B, 0, none⟩ (.slice A' (L + n) c')).heap[B]? = some (.cells #[.slice A' (L + n) c'] ts (0, 0)) ∧
      KeepsOthers W (w2.setCell ⟨B, 0, none⟩ (.slice A' (L + n) c')) ∧ Kept n₀ B W (w2.setCell ⟨B, 0, none⟩ (.slice A' (L + n) c')) ∧ Coll ts te sz f B w0 (pre ++ m) (w2.setCell ⟨B, 0, none⟩ (.slice A' (L + n) c')) := by
  subst hn
  obtain ⟨v, hb, ho, hk, hbl, hB⟩ := h
  obtain ⟨A, c, rfl, hlc, _, hAo, _⟩ := ho.form
  obtain ⟨A', c', w2, hrun, ho2, hg, hat0⟩ := ho.appendF (P := Try.prog) hf ts ht hinfo hzs c0 hr hm hby
  have hat : ∀ k, Value.ownBlock (.slice A' (pre.length + m.length) c') = some k → Value.ownBlock (.slice A pre.length c) = some k ∨ W.heap.size ≤ k := fun k hk2 => by
    rcases hat0 with h1 | h1
    · exact .inl (h1 ▸ hk2)
    · have := h1.symm.trans hk2
      simp at this
      exact .inr (by omega)
  have hcells : ∀ j o, Value.ownBlock (.slice A pre.length c) = some j → W.heap[j]? = some o → o.isCells = true := by
    intro j o hj hjo
    rcases ho.2 with ⟨hv, _⟩ | ⟨g, cap, cur, hv, hbg, hg2, _⟩
    · rw [hv] at hj; cases hj
    · rw [hv] at hj
      cases hj
      rw [hg2] at hjo
      cases hjo
      rfl
  have hBlt := heap_lt hb
  have hb2 : w2.heap[B]? = some (.cells #[.slice A pre.length c] ts (0, 0)) := (hg.block B hBlt (fun e => (hk B e.symm).2 rfl)).trans hb
  have hneB : ∀ k, Value.ownBlock (.slice A' (pre.length + m.length) c') = some k → k ≠ B := fun k hk2 e => by
    rcases hat k hk2 with h1 | h1
    · exact (hk k h1).2 e
    · omega
  refine ⟨A, pre.length, c, A', c', w2, rfl, hb, hrun, hb2, by rw [heap_setCell hb2]; rfl, ?_, ?_, ?_⟩
  · exact (KeepsOthers.of_grownBy hg (fun j o hj hjo => hcells j o hj.symm.symm hjo)).trans (KeepsOthers.setCell _ _ _)
  · refine ⟨by simpa [World.setCell] using hg.size, fun k o hko hno _ => ?_, fun k hko => ?_⟩
    · have hkB : k ≠ B := fun e => hno ⟨heap_lt hko, .inl e⟩
      have hkv : Value.ownBlock (.slice A pre.length c) ≠ some k := fun e => hno ⟨heap_lt hko, .inr ⟨_, cell_of hb 0 rfl, e⟩⟩
      rw [heap_setCell_ne hkB]
      exact (hg.block k (heap_lt hko) (fun e => hkv e.symm)).trans hko
    · obtain ⟨h1, rfl | ⟨u, h2, h3⟩⟩ := hko
      · exact .inl ⟨hBlt, .inl rfl⟩
      · have h4 : (w2.setCell ⟨B, 0, none⟩ (.slice A' (pre.length + m.length) c')).heap[B]? = some (.cells #[.slice A' (pre.length + m.length) c'] ts (0, 0)) := by rw [heap_setCell hb2]; rfl
        have h5 := cell_of h4 0 rfl
        rw [h5] at h2
        cases h2
        rcases hat k h3 with h6 | h6
        · exact .inl ⟨(World.ownsRow.lt ho k h6).2, .inr ⟨_, cell_of hb 0 rfl, h6⟩⟩
        · exact .inr h6
  · refine ⟨_, by rw [heap_setCell hb2]; rfl, ?_, fun k hk2 => ⟨?_, hneB k hk2⟩, ?_, hB⟩
    · exact ho2.chg (chg1 (F := fun k => k = B) (Chg.refl _ w2) rfl _) (fun k hk2 e => hneB k hk2 e)
    · rcases hat k hk2 with h1 | h1
      · exact (hk k h1).1
      · exact Nat.le_trans hbl.size h1
    · exact (hbl.grown hg hbl.size (fun k e => (hk k e.symm.symm).1)).setCell (p := ⟨B, 0, none⟩) hB _
theorem Coll.chg {α : Type} {ts te : TypeId} {sz : Nat} {f : α → List Value} {B : Nat} {w0 W W' : World} {pre : List α} (h : Coll ts te sz f B w0 pre W) (hc : Chg (fun _ => False) W W') : Coll ts te sz f B w0 pre W' := by
  obtain ⟨v, hb, ho, hk, hbl, hB⟩ := h
  exact ⟨v, chg_heap0 hc hb, ho.chg hc (fun _ _ => id), hk, hbl.trans (hc.below (fun k hk => ⟨Nat.lt_of_lt_of_le hk hbl.size, id⟩)), hB⟩
theorem kp_calm {n₀ M B : Nat} {W W' : World} (hB : B < W.heap.size) (hc : Chg (fun _ => False) W W') : Kp n₀ M B W W' :=
  ⟨hc.size, fun k o h _ _ => chg_heap0 hc h, fun k o h _ _ => chg_heap0 hc h, fun k hk => .inl (hk.same (hc.block B hB id))⟩
theorem keepsFrom_calm {m : Nat} {W W' : World} (hc : Chg (fun _ => False) W W') : KeepsFrom m W W' := ⟨hc.size, fun k o _ h _ => chg_heap0 hc h⟩
def fb (bag : Int) (id : Int) : List Value := [.int .i64 id, .int .u64 0, .int .i64 bag]
theorem layB (bag : Int) : Lay (fb bag) 3 := ⟨fun x => rfl, fun x u hu => by simp [fb] at hu; rcases hu with rfl | rfl | rfl <;> rfl, by omega⟩
set_option maxRecDepth 20000 in
set_option maxHeartbeats 2000000 in
theorem together_any {w : World} {v : Value} {ids : List Int} (bag : Int) (ho : OwnF w 3 1 fi v ids) (hl : ids.length ≤ 1000) :
    Calls Try.prog 81 #[.int .i64 bag, v] w fun e w' => ∃ u, e = .returned u ∧ NewF 85 3 (fb bag) w w' u ids := by
  obtain ⟨A, c, rfl, _, _, _, _⟩ := ho.form
  obtain ⟨n, hn⟩ : ∃ n, n = ids.length := ⟨_, rfl⟩
  rw [← hn] at hl ho ⊢
  have HO := Lib.hid (⟨hn, ho⟩ : _ ∧ _)
  clear hn ho
  go_enter Try.func81, Try.ntmps81
  go_wp2
  go_loopw [5, 9] (fun a i wr => ∃ (k : Nat) (A' : Option Addr) (c' : Nat), k ≤ n ∧ i = .int .i64 k ∧ a = .slice A' k c' ∧ Hid (NewF 85 3 (fb bag) w wr (.slice A' k c') (ids.take k))) (fun _ i _ => n - (intOf i).toNat)
  case atStart => exact ⟨0, none, 0, Nat.zero_le _, rfl, rfl, Lib.hid (NewF.nil _ _ _ _)⟩
  case round =>
    obtain ⟨k, A', c', hk, rfl, rfl, HI⟩ := hrel
    by_cases hkn : k < n
    · obtain ⟨hn, ho⟩ := HO.out
      have hkl : k < ids.length := by omega
      obtain ⟨gs, cr, cur, hvv, hvo, hcbk, _, _, hcc⟩ := ho.at_ layI 0 (by omega)
      simp only [Value.slice.injEq] at hvv
      obtain ⟨rfl, -, rfl⟩ := hvv
      obtain ⟨id, hid⟩ : ∃ id, id = ids.getD k 0 := ⟨_, rfl⟩
      have hide : ids[k]? = some id := by rw [hid, List.getD_eq_getElem?_getD, List.getElem?_eq_getElem hkl]; rfl
      have hcell := hcc k 0 hkl (by omega)
      have r_s : wr.cell? ⟨gs, k, none⟩ = some (.int .i64 id) := by
        rw [Nat.mul_one, Nat.add_zero, List.getD_eq_getElem?_getD, hide] at hcell
        exact chg_cell HI.out.2.2 (cell_of hcbk k hcell) (fun f => f)
      obtain ⟨A2, c2, w2, hap, hN2⟩ := HI.out.push (t := 70) (layB bag) Try.underlying70 info85 rfl (by rw [List.length_take]; omega) id (by omega) (by omega) 70
      have htk : ids.take (k + 1) = ids.take k ++ [id] := by rw [List.take_add_one, hide]; rfl
      rw [← htk] at hN2
      have HN := Lib.hid hN2
      clear hn ho hkl hvo hcbk hcc hid hide hcell hN2 htk
      simp only [fb] at hap
      go_wp2_with (at_builtin; refine wpList_append_run rfl _ _ 70 rfl _ _ _ _ rfl rfl hap ?_)
      go_roundw
      case rel => exact ⟨k + 1, A2, c2, hkn, by go_num, rfl, HN⟩
      case measure => simp [intOf]; omega
    · obtain rfl : k = n := by omega
      go_wp2
      go_ret
      have h := HI.out
      rw [HO.out.1, List.take_length] at h
      exact ⟨_, rfl, by rw [HO.out.1]; exact h⟩
def fr (x : Int × Int) : List Value := [.int .i64 x.1, .int .u64 0, .int .i64 x.2]
theorem layR : Lay fr 3 := ⟨fun x => rfl, fun x u hu => by simp [fr] at hu; rcases hu with rfl | rfl | rfl <;> rfl, by omega⟩
/-- Each voter's number and bag, in the order of the bags. -/
def rowsOf (rows : List (List Vo)) : List (Int × Int) := (bagsOf rows rows.length).flatMap (fun k => k.2.map (fun id => (id, k.1)))
def gB (x : Bag1) : List (Int × Int) := x.2.2.map (fun id => (id, x.1))
theorem gB_all {rows : List (List Vo)} {xs : List Bag1} (h : xs.map keyB = bagsOf rows rows.length) : xs.flatMap gB = rowsOf rows := by
  unfold rowsOf
  rw [← h, List.flatMap_map]
  rfl
theorem gB_pre {rows : List (List Vo)} {xs : List Bag1} (h : xs.map keyB <+: bagsOf rows rows.length) : (xs.flatMap gB).length ≤ (rowsOf rows).length := by
  obtain ⟨t, h⟩ := h
  unfold rowsOf
  rw [← h]
  rw [List.flatMap_append, List.flatMap_map, List.length_append]
  exact Nat.le_add_right _ _
section
variable {w : World} {g bm : Nat} {tv rv : Value} {T : List Int} {rows : List (List Vo)} {N : Int} {col : Nat → Nat}
set_option maxRecDepth 100000 in
set_option maxHeartbeats 4000000 in
theorem rows_list (hv : VM w g bm tv rv T rows N col) (hrl : ∀ l ∈ rows, l.length ≤ 1000) (hL : (rowsOf rows).length ≤ 1000) : Calls Try.prog 37 #[.pointer (some ⟨g, 0, none⟩)] w (ListPost 85 3 fr (rowsOf rows) w) := by
  obtain ⟨n0, hn0⟩ : ∃ n0, n0 = w.heap.size := ⟨_, rfl⟩
  obtain ⟨W1, hW1⟩ : ∃ W1, W1 = w.alloc (.cells #[.slice none 0 0] 70) := ⟨_, rfl⟩
  obtain ⟨W2, hW2⟩ : ∃ W2, W2 = W1.alloc (.cells #[.pointer (some ⟨g, 0, none⟩)] 64) := ⟨_, rfl⟩
  have hs1 : W1.heap.size = n0 + 1 := by rw [hW1, hn0]; simp
  have hs2 : W2.heap.size = n0 + 2 := by rw [hW2]; simp [hs1]
  have hB1 : W2.heap[n0 + 1]? = some (.cells #[.pointer (some ⟨g, 0, none⟩)] 64 (0, 0)) := by rw [hW2, ← hs1]; exact heap_alloc_at _ _
  have hB0 : W2.heap[n0]? = some (.cells #[.slice none 0 0] 70 (0, 0)) := by rw [hW2, hW1, hn0]; exact heap_alloc_ne (heap_alloc_at _ _)
  have hC2 : Chg (fun _ => False) w W2 := by rw [hW2, hW1]; exact ((Chg.refl _ w).alloc _).alloc _
  have hbl : Below w.heap.size w W2 := by rw [hW2, hW1]; exact ((Below.refl _ w).alloc (Nat.le_refl _) _).alloc (by simp) _
  have hv2 := hv.keep hC2 (fun _ _ f => f.elim)
  have hcl : ∀ k, col k ≠ 0 → k < n0 := fun k hk => by rw [hn0]; exact hv.top hk
  obtain ⟨hlv, hbx⟩ := live_nil hB0
  have hcoll : Coll 70 85 3 fr n0 w [] W2 := ⟨_, hB0, OwnF.nil _ _ _ _, (fun k hk => by cases hk), hbl, by omega⟩
  have hst := bags_seq (n := 9 - 1) (n₀ := n0) (M := W2.heap.size + 2) (B := n0) (cb := n0 + 1) (by omega) hB1 hv2 hrl hcl hlv (fun k hk hb => by
    have := hbx k hb
    rcases hk with rfl | hk
    · omega
    · have := hcl k hk; omega)
  have HH := Lib.hid (⟨hn0, hs2, hB0, hC2, hcoll, hlv, hL, hrl⟩ : _ ∧ _ ∧ _ ∧ _ ∧ _ ∧ _ ∧ _ ∧ _)
  have HST := Lib.hid hst
  have HW1 := Lib.hid hW1
  have HW2 := Lib.hid hW2
  clear hn0 hW1 hW2 hs1 hs2 hB1 hB0 hC2 hbl hv2 hcl hlv hbx hcoll hst hv hrl hL
  refine (callsIn_wide (n := 9)).1 ?_
  refine callsIn_of_wp_marks Try.func37 rfl trivial ?_ rfl
  simp only [Try.ntmps37, List.size_toArray, List.length_cons, List.length_nil, Nat.reduceAdd, Nat.reduceSub, Array.replicate_succ, Array.replicate_zero, List.push_toArray, List.append_toArray, List.nil_append, List.cons_append]
  gi_wp2_with fail
  refine ⟨trivial, (callsIn_wide.2 (bags80 _ _)).mono ?_⟩
  rintro e w' ⟨rfl, rfl⟩
  gi_wp2_with fail
  rw [← HW1.out, ← HW2.out, ← HH.out.1]
  refine wpIn_rangeFunc_o rfl (by omega) (gf := 90) (lb := #[.pointer (some ⟨n0 + 1, 0, none⟩)]) rfl trivial (enters_of Try.func90 (by kernel_rfl) rfl)
    HST.out (fun h k => Kp.trans h k) (fun V l o o' h1 h2 h3 h4 => by
      obtain ⟨hn0, hs2, hB0, hC2, hcoll, hlv, hL, hrl⟩ := HH.out
      exact kp_b (n₀ := n0) (m := W2.heap.size) (by omega) (by omega) hlv.1 V l o o' h1 h2 h3 h4) (Below.refl _ _) (fun _ => rfl)
    ?hCb (fun pre W => Coll 70 85 3 fr n0 w (pre.flatMap gB) W) (fun _ _ _ => False) (fun s A A' row h hg hr => Coll.ownFrom (by have := HH.out; omega) (s.flatMap gB) A A' row h hg hr) (fun _ _ _ _ _ hs _ _ => hs) HH.out.2.2.2.2.1 ?a1 ?assign ?body ?done ?stop
  case hCb =>
    rintro pre x V k o o' hk ho hoc ⟨h1, h2, h3⟩
    have hBlt := HH.out.2.2.2.2.2.1.1
    refine ⟨OwnF.turned h1 (grownBy_putObj' V k o') (fun r e => by cases e; exact ⟨o, ho, hoc⟩), fun j hj hb => h2 j hj (hb.same (World.putObj_heap_other (by omega))), h3⟩
  case assign =>
    intro l x W K hK
    simp only [encC]
    gi_wp2
    exact hK
  case body =>
    rintro l pre x W hc hlt ⟨hoF, hnbx, hpre⟩
    obtain ⟨hn0, hs2, hB0, hC2, -, hlv, hL, hrl⟩ := HH.out
    have hlen := gB_pre hpre
    have hfin : (pre ++ [x]).flatMap gB = pre.flatMap gB ++ gB x := by simp
    obtain ⟨bag, v, ids⟩ := x
    dsimp only at hoF hnbx hlen hfin ⊢
    rw [hfin] at hlen
    have hidl : ids.length ≤ 1000 := by
      have : (gB (bag, v, ids)).length = ids.length := by simp [gB]
      rw [List.length_append] at hlen
      omega
    have htog := together_any (w := W.drew) bag (hoF.chg (Chg.refl (fun _ => False) W).drew (fun _ _ => id)) hidl
    have hc0 := hc
    obtain ⟨vv, hb0, ho0, _, _, _⟩ := hc0
    obtain ⟨A0, cc0, rfl, _, _, _, _⟩ := ho0.form
    obtain ⟨L0, hL0⟩ : ∃ L0, L0 = (pre.flatMap gB).length := ⟨_, rfl⟩
    rw [← hL0] at hb0
    have r0 := cell_of hb0 0 rfl
    have hP : Try.prog.follows .mixedOrders = true := by kernel_rfl
    obtain ⟨md, hmd⟩ : ∃ md, md = ids.length := ⟨_, rfl⟩
    have hgl : (gB (bag, v, ids)).length = md := by simp [gB, hmd]
    have happ : ∀ (w' : World) (u : Value), NewF 85 3 (fb bag) W.drew w' u ids → ∃ A n c A3 c3 w3, u = .slice A n c ∧ w'.cell? ⟨n0, 0, none⟩ = some (.slice A0 L0 cc0) ∧
        (Builtin.append_ #[70, 70] 70 #[.slice A0 L0 cc0, .slice A n c]).run Try.prog w' = .ok (.slice A3 (L0 + n) c3) w3 ∧ w3.cell? ⟨n0, 0, none⟩ = some (.slice A0 L0 cc0) ∧ (∀ j, w3.frozen? ⟨n0, j, none⟩ = false) ∧
        KeepsFrom W2.heap.size W (w3.setCell ⟨n0, 0, none⟩ (.slice A3 (L0 + n) c3)) ∧ Kp n0 (W2.heap.size + 2) n0 W (w3.setCell ⟨n0, 0, none⟩ (.slice A3 (L0 + n) c3)) ∧ Coll 70 85 3 fr n0 w ((pre ++ [(bag, v, ids)]).flatMap gB) (w3.setCell ⟨n0, 0, none⟩ (.slice A3 (L0 + n) c3)) := by
      intro w' u hN
      obtain ⟨A, n, c, rfl, hn, _, hrd⟩ := hN.form3
      have hC : Chg (fun _ => False) W w' := ((Chg.refl (fun _ => False) W).drew).trans hN.2.2 (fun _ _ f => f)
      have hrd2 : ReadsF w' fr A (gB (bag, v, ids)) := by
        intro hne
        obtain ⟨a, h1, h2⟩ := hrd (by rintro rfl; exact hne rfl)
        refine ⟨a, h1, fun i x hx => h2 i x ?_⟩
        rw [← hx]
        unfold gB
        rw [List.flatMap_map]
        rfl
      obtain ⟨A1, L1, c1, A3, c3, w3, h1, h2, h3, h4, h5, h6, h7, h8⟩ := Coll.app (W := w') (pre := pre.flatMap gB) n0 (Coll.chg hc hC) layR Try.underlying70 info85 rfl (c0 := c) hrd2 (show n = _ by rw [hn, hgl, hmd]) (by
        rw [List.length_append] at hlen
        omega) (by omega)
      have e := (chg_cell hC r0 (fun f => f)).symm.trans (cell_of h2 0 rfl)
      simp only [List.size_toArray, List.length_cons, List.length_nil, Nat.zero_add, List.getElem_toArray, List.getElem_cons_zero, Option.some.injEq, Value.slice.injEq] at e
      obtain ⟨rfl, rfl, rfl⟩ := e
      rw [hfin]
      exact ⟨A, n, c, A3, c3, w3, rfl, cell_of h2 0 rfl, h3, cell_of h4 0 rfl, frz h4, (keepsFrom_calm hC).trans (h6.from _), (kp_calm (heap_lt hb0) hC).trans (kp_of_coll h8 h6 h7), h8⟩
    have HG := Lib.hid happ
    clear hc hlt hoF hnbx hpre hn0 hs2 hB0 hC2 hlv hL hrl hlen hfin hb0 ho0 hL0 hidl hmd happ hgl
    gi_wp2_with fail
    refine J.wpIn_region_seq (fun W => W.cell? ⟨n0, 0, none⟩ = some (.slice A0 L0 cc0)) [(0, 0), (1, 0), (2, 0), (3, 1), (4, 1), (5, 1)] (by kernel_rfl) (by kernel_rfl) (by kernel_rfl) r0 ?_
    iterate 3 (apply J.look (by rfl) (by rfl); (focus (intro W hW; go_simp; exact HasV.val rfl)); simp only [Act.put, List.setIfInBounds_toArray, List.set_cons_zero, List.set_cons_succ])
    refine J.link (fun u W' => NewF 85 3 (fb bag) W.drew W' u ids) (by rfl) (by rfl) ?_ (fun u W' hR => by obtain ⟨A, n, c, A3, c3, w3, rfl, hr1, _⟩ := HG.out _ _ hR; exact hr1) ?_
    · go_simp
      refine J.HasR.call (htog.mono ?_)
      rintro e W2 ⟨u, rfl, hN⟩
      exact ⟨_, rfl, hN⟩
    rintro u W' hN
    obtain ⟨A, n, c, A3, c3, w3, rfl, hr1, hap, hr2, hr3, hF⟩ := HG.out _ _ hN
    have HF := Lib.hid hF
    clear hN htog hF
    simp only [Act.put, List.setIfInBounds_toArray, List.set_cons_zero, List.set_cons_succ]
    refine J.link (fun u W => u = .slice A3 (L0 + n) c3 ∧ W = w3) (by rfl) (by rfl) ?_ (fun u W hR => by rw [hR.2]; exact hr2) ?_
    · exact hasR_append (.tmp 10) (.tmp 13) 70 rfl _ _ _ _ rfl rfl hap ⟨rfl, rfl⟩
    rintro u W'' ⟨rfl, hW⟩
    obtain rfl : w3 = W'' := hW.symm
    simp only [Act.put, List.setIfInBounds_toArray, List.set_cons_zero, List.set_cons_succ]
    refine J.final (fun u W => u = undef ∧ W = w3.setCell ⟨n0, 0, none⟩ (.slice A3 (L0 + n) c3)) (by rfl) (by rfl) (by kernel_rfl) ?_ ?_
    · go_simp
      exact J.HasR.skip ⟨rfl, rfl⟩
    rintro u W'' ⟨rfl, rfl⟩
    refine J.fin ?_
    exact HF.out
  case done =>
    rintro D ys W hD hys hC hK
    rw [gB_all hys] at hC
    obtain ⟨v, hb, ho, hf, hcg⟩ := hC.close hK (by have := HH.out; omega) (.deferred none)
    have r0 := cell_of hb 0 rfl
    have HF := Lib.hid (⟨ho, hf, hcg⟩ : _ ∧ _ ∧ _)
    clear hC hb ho hf hcg hys
    gi_wp2
    refine ⟨by simp, .inl ⟨_, _, rfl, run_takeDeferred hK, ?_⟩⟩
    exact ⟨_, results_tmp rfl _ _ _, v, rfl, HF.out⟩
  case stop =>
    rintro D c pre W _ _ h _
    exact h.elim
end
end Go.Proofs.Ythoagpagnldmeaa.V
