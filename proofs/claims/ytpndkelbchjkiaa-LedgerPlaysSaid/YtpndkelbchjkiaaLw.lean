/- An element put into a row of chunks (slices.Insert). -/
import Derived.Test.YtpndkelbchjkiaaLd
import Derived.Lib.Overlaps
import Derived.Lib.AppendZerosOnto
import Derived.Laws.Externs
set_option linter.unusedVariables false
set_option linter.unusedSimpArgs false
namespace Go.Proofs.Ytpndkelbchjkiaa
open Go.RowKit Go.Ps
section
variable {P : Program}
/-- Cells overwritten from o on. -/
def lay (X : List Value) (o : Nat) (cs : List Value) : List Value := X.take o ++ cs ++ X.drop (o + cs.length)
theorem lay_len {X cs : List Value} {o : Nat} (h : o + cs.length ≤ X.length) : (lay X o cs).length = X.length := by simp [lay]; omega
theorem lay_take {X cs : List Value} {o k : Nat} (h : o ≤ X.length) (hk : k ≤ o) : (lay X o cs).take k = X.take k := by
  unfold lay
  rw [List.append_assoc, List.take_append_of_le_length (by simp; omega), List.take_take, Nat.min_eq_left hk]
theorem lay_drop {X cs : List Value} {o : Nat} (h : o ≤ X.length) : (lay X o cs).drop o = cs ++ X.drop (o + cs.length) := by
  unfold lay
  rw [List.append_assoc, List.drop_append_of_le_length (by simp; omega)]
  simp [h]
theorem lay_take2 {X cs : List Value} {o : Nat} (h : o ≤ X.length) : (lay X o cs).take (o + cs.length) = X.take o ++ cs := by
  unfold lay
  rw [List.take_append_of_le_length (by simp; omega), List.take_of_length_le (by simp; omega)]
/-- What stands behind is moved first, and the new one laid. -/
theorem lay_shift {X D cs : List Value} {o : Nat} (h : o + cs.length + D.length ≤ X.length) : (lay (lay X (o + cs.length) D) o cs).take (o + cs.length + D.length) = X.take o ++ cs ++ D := by
  have h1 := lay_len (X := X) (o := o + cs.length) (cs := D) h
  have h2 : (lay (lay X (o + cs.length) D) o cs) = X.take o ++ cs ++ (D ++ X.drop (o + cs.length + D.length)) := by
    rw [lay, lay_take (X := X) (by omega) (by omega), lay_drop (by omega)]
  rw [h2, ← List.append_assoc, List.take_append_of_le_length (by simp; omega), List.take_of_length_le (by simp; omega)]
/-- The new one is laid first. -/
theorem lay_back {X D cs : List Value} {o : Nat} (h : o + cs.length + D.length ≤ X.length) : (lay (lay X o cs) (o + cs.length) D).take (o + cs.length + D.length) = X.take o ++ cs ++ D := by
  have h1 := lay_len (X := X) (o := o) (cs := cs) (by omega)
  rw [lay_take2 (by omega), lay_take2 (by omega)]
theorem run_copy_rows {sz : Nat} (w : World) (dT sT ty elem : TypeId) (g o dLen dCap : Nat) (a : Addr) (sLen sCap : Nat) (cur : Array Value) (t : TypeId) (cs : List Value) (k : Nat) (hk : Nat.min sLen dLen = k)
    (hu : P.underlying dT = some (.slice elem)) (hs : (P.info? elem).map (·.size) = some sz)
    (hg : w.heap[g]? = some (.cells cur t (0, 0))) (hn : cs.length = k * sz)
    (hsrc : ∀ j v, cs[j]? = some v → w.cell? (a.add j) = some v) (hfit : o + cs.length ≤ cur.size) (h1 : ∀ v ∈ cs, v.oneCell' = true) :
    (Builtin.copy_ #[dT, sT] ty #[.slice (some ⟨g, o, none⟩) dLen dCap, .slice (some a) sLen sCap]).run P w =
        .ok (goInt k) (w.setRow g (lay cur.toList o cs).toArray) := by
  subst hk
  have hl := run_loadCells_list (P := P) w a cs hsrc
  have hst := run_storeCells_at P g o t cs 0 cur w hg (by simpa using hfit) h1
  cases hq : P.info? elem with
  | none => simp [hq] at hs
  | some i =>
    have hi : i.size = sz := by simpa [hq] using hs
    simp [Builtin.copy_, run_underlying hu, Builtin.lenOf, Builtin.firstCells, sizeOf, typeInfo, hq, hi, ← hn, hl, hst, lay]
theorem wpList_copy_at (w : World) {ops : Array Oper} {rest : List Oper} {o : Oper} {a : Act} {Q : Exit → Act → World → Prop} (hgd : o.guard = none) (d s : Operand) (t t' : TypeId)
    (ho : o.op = .call { callee := .builtin .copy, args := #[d, s], argTypes := #[t, t'] }) (v u : Value) (hd : a.eval d = v) (hs : a.eval s = u) {v' : Value} {w' : World}
    (hr : (Builtin.copy_ #[t, t'] o.type #[v, u]).run P w = .ok v' w') (h : wpList P ops Q rest (a.put o.dst v') w') : wpList P ops Q (o :: rest) a w :=
  wpList_plain hgd fun K hK => by
    unfold Oper.wp execOp
    simp only [ho, resolve, invoke, builtin, Sem.run_bind, Sem.run_pure, Result.andThen_ok, List.map_toArray, List.map_cons, List.map_nil, hd, hs, hr]
    exact hK _ _ h
theorem wpList_append_at (w : World) {ops : Array Oper} {rest : List Oper} {o : Oper} {a : Act} {Q : Exit → Act → World → Prop} (hgd : o.guard = none) (d s : Operand) (t t' : TypeId)
    (ho : o.op = .call { callee := .builtin .append, args := #[d, s], argTypes := #[t, t'] }) (v u : Value) (hd : a.eval d = v) (hs : a.eval s = u) {v' : Value} {w' : World}
    (hr : (Builtin.append_ #[t, t'] o.type #[v, u]).run P w = .ok v' w') (h : wpList P ops Q rest (a.put o.dst v') w') : wpList P ops Q (o :: rest) a w :=
  wpList_plain hgd fun K hK => by
    unfold Oper.wp execOp
    simp only [ho, resolve, invoke, builtin, Sem.run_bind, Sem.run_pure, Result.andThen_ok, List.map_toArray, List.map_cons, List.map_nil, hd, hs, hr]
    exact hK _ _ h
theorem hasR_copy {w : World} {o : Oper} {a : Act} {R : Value → World → Prop} (d s : Operand) (t t' : TypeId)
    (ho : o.op = .call { callee := .builtin .copy, args := #[d, s], argTypes := #[t, t'] }) (v u : Value) (hd : a.eval d = v) (hs : a.eval s = u) {v' : Value} {w' : World}
    (hr : (Builtin.copy_ #[t, t'] o.type #[v, u]).run P w = .ok v' w') (h : R v' w') : J.HasR P R ((execOp a.eval o).run P w) := by
  unfold execOp
  simp only [ho, resolve, invoke, builtin, Sem.run_bind, Sem.run_pure, Result.andThen_ok, List.map_toArray, List.map_cons, List.map_nil, hd, hs, hr]
  exact h
end
def InsPost (l : List (Int × Int)) (i : Nat) (x : Int × Int) (v : Value) (w : World) (e : Ending) (w' : World) : Prop :=
  ∃ A c, e = .returned (.slice A (l.length + 1) c) ∧ OwnF w' 38 2 fch (.slice A (l.length + 1) c) (l.take i ++ x :: l.drop i) ∧ Chg (fun k => v.ownBlock = some k) w w' ∧ ∀ k, Value.ownBlock (.slice A (l.length + 1) c) = some k → v.ownBlock = some k ∨ w.heap.size ≤ k
set_option maxRecDepth 20000 in
set_option maxHeartbeats 2000000 in
theorem insert_end {w : World} {v : Value} {l : List (Int × Int)} {q : Nat} (hO : OwnF w 38 2 fch v l) (x : Int × Int) (hq : w.heap[q]? = some (.cells #[.int .u64 x.1, .int .i64 x.2] 38 (0, 0))) (hl : l.length ≤ 1000) :
    Calls Try.prog 35 #[v, .int .i64 l.length, .slice (some ⟨q, 0, none⟩) 1 1] w (InsPost l l.length x v w) := by
  obtain ⟨A', c', w2, hrun, ho, hg, hat⟩ := hO.appendF (P := Try.prog) layC 32 Try.underlying32 info38 rfl (m := [x]) 1 (ReadsF.of_block (t := 38) (fr := (0, 0)) (by rw [hq]; rfl)) (by simp; omega) (by omega)
  obtain ⟨A, c, rfl, hcap, _⟩ := hO.form
  have HF : Hid (InsPost l l.length x (.slice A l.length c) w (.returned (.slice A' (l.length + 1) c')) w2) := Lib.hid (by
    refine ⟨A', c', rfl, ?_, (Chg.refl _ w).grown hg (fun k hk _ => hk), fun k hk => ?_⟩
    · simpa using ho
    · rcases hat with hat | hat
      · rw [← hat]; exact .inl hk
      · have := hat.symm.trans hk
        simp at this
        right; omega)
  simp only [List.length_cons, List.length_nil, Nat.zero_add] at hrun
  obtain ⟨n, hn⟩ : ∃ n, n = l.length := ⟨_, rfl⟩
  rw [← hn] at hrun hl hcap
  have HN := Lib.hid hn
  rw [← hn] at HF
  rw [← hn]
  clear hO hq ho hg hat hn
  by_cases hcn : c = n
  · subst hcn
    go_enter Try.func35, Try.ntmps35
    go_wp2_with (at_builtin; refine wpList_append_run rfl _ _ 32 rfl _ _ _ _ rfl rfl hrun ?_)
    go_ret
    exact HF.out
  · go_enter Try.func35, Try.ntmps35
    go_wp2_with (at_builtin; refine wpList_append_run rfl _ _ 32 rfl _ _ _ _ rfl rfl hrun ?_)
    go_ret
    exact HF.out
set_option maxRecDepth 20000 in
set_option maxHeartbeats 4000000 in
theorem insert_room {w : World} {l : List (Int × Int)} {b c q i : Nat} (hO : OwnF w 38 2 fch (.slice (some ⟨b, 0, none⟩) l.length c) l) (x : Int × Int) (hq : w.heap[q]? = some (.cells #[.int .u64 x.1, .int .i64 x.2] 38 (0, 0))) (hqb : q ≠ b) (hi : i < l.length) (hl : l.length ≤ 1000) (hc : l.length + 1 ≤ c) :
    Calls Try.prog 35 #[.slice (some ⟨b, 0, none⟩) l.length c, .int .i64 i, .slice (some ⟨q, 0, none⟩) 1 1] w (InsPost l i x (.slice (some ⟨b, 0, none⟩) l.length c) w) := by
  obtain ⟨hlen, h | ⟨g, cap, cur, e, hbg, hg, hnc, hcm, hcs, htake⟩⟩ := id hO
  · cases h.1
  simp only [Value.slice.injEq, Option.some.injEq, Addr.mk.injEq, and_true, true_and] at e
  obtain ⟨rfl, rfl⟩ := e
  have hcl : cur.toList.length = c * 2 := by rw [Array.length_toList]; exact hcs
  have hD : ((l.drop i).flatMap fch).length = (l.length - i) * 2 := by rw [layC.length, List.length_drop]
  have hdrop : l.flatMap fch = (l.take i).flatMap fch ++ (l.drop i).flatMap fch := by rw [← List.flatMap_append, List.take_append_drop]
  have hTl : ((l.take i).flatMap fch).length = i * 2 := by rw [layC.length, List.length_take]; omega
  have htk : cur.toList.take (i * 2) = (l.take i).flatMap fch := by
    have h1 : cur.toList.take (i * 2) = (cur.toList.take (l.length * 2)).take (i * 2) := by rw [List.take_take, Nat.min_eq_left (by omega)]
    rw [h1, htake, hdrop, List.take_append_of_le_length (by omega), List.take_of_length_le (by omega)]
  have hdk : ∀ j u, ((l.drop i).flatMap fch)[j]? = some u → cur[i * 2 + j]? = some u := by
    intro j u hu
    have h0 : (l.flatMap fch)[i * 2 + j]? = some u := by
      rw [hdrop, List.getElem?_append_right (by omega), hTl, Nat.add_sub_cancel_left]
      exact hu
    rw [← htake, List.getElem?_take] at h0
    split at h0
    · rw [← Array.getElem?_toList]; exact h0
    · cases h0
  obtain ⟨D, hDe⟩ : ∃ D, D = (l.drop i).flatMap fch := ⟨_, rfl⟩
  rw [← hDe] at hD hdk
  have hD1 : ∀ u ∈ D, u.oneCell' = true := by rw [hDe]; exact layC.ones _
  have hX1 : ∀ u ∈ fch x, u.oneCell' = true := layC.one x
  obtain ⟨n, hn⟩ : ∃ n, n = l.length := ⟨_, rfl⟩
  rw [← hn] at hD hi hc hl ⊢
  have hcp1 : ∀ ty dc sc, (Builtin.copy_ #[32, 32] ty #[.slice (some ⟨b, (i + 1) * 2, none⟩) (n - i) dc, .slice (some ⟨b, i * 2, none⟩) (n + 1 - i) sc]).run Try.prog w.drew = .ok (goInt ((n - i : Nat) : Int)) (w.drew.setRow b (lay cur.toList ((i + 1) * 2) D).toArray) := fun ty dc sc =>
    run_copy_rows (sz := 2) w.drew 32 32 ty 38 b ((i + 1) * 2) (n - i) dc ⟨b, i * 2, none⟩ (n + 1 - i) sc cur 38 D (n - i) (by simp only [Nat.min_def]; split <;> omega) Try.underlying32 rfl hg hD (fun j u hu => by
      rw [show (⟨b, i * 2, none⟩ : Addr).add j = ⟨b, i * 2 + j, none⟩ by unfold Addr.add; split <;> simp_all]
      exact cell_of (w := w.drew) hg _ (hdk j u hu)) (by omega) hD1
  obtain ⟨W1, hW1⟩ : ∃ W1, W1 = w.drew.setRow b (lay cur.toList ((i + 1) * 2) D).toArray := ⟨_, rfl⟩
  have hg1 : W1.heap[b]? = some (.cells (lay cur.toList ((i + 1) * 2) D).toArray 38 (0, 0)) := by rw [hW1]; exact heap_setRow hg
  have hC1 : Chg (fun k => k = b) w W1 := by rw [hW1]; exact (Chg.refl _ w).drew.trans (chg_setRow _ b _) (fun _ _ h => h)
  have hq1 : W1.heap[q]? = some (.cells #[.int .u64 x.1, .int .i64 x.2] 38 (0, 0)) := (hC1.block q (heap_lt hq) hqb).trans hq
  have hll : (lay cur.toList ((i + 1) * 2) D).length = c * 2 := by rw [lay_len (by omega)]; exact hcl
  have hcp2 : ∀ ty dc, (Builtin.copy_ #[32, 32] ty #[.slice (some ⟨b, i * 2, none⟩) (n + 1 - i) dc, .slice (some ⟨q, 0, none⟩) 1 1]).run Try.prog W1 = .ok (goInt ((1 : Nat) : Int)) (W1.setRow b (lay (lay cur.toList ((i + 1) * 2) D) (i * 2) (fch x)).toArray) := fun ty dc =>
    run_copy_rows (sz := 2) W1 32 32 ty 38 b (i * 2) (n + 1 - i) dc ⟨q, 0, none⟩ 1 1 _ 38 (fch x) 1 (by simp only [Nat.min_def]; split <;> omega) Try.underlying32 rfl hg1 rfl (fun j u hu => by
      rw [add_zero]
      exact cell_of hq1 _ (by simpa [fch] using hu)) (by
      show i * 2 + 2 ≤ (lay cur.toList ((i + 1) * 2) D).toArray.size
      simp [hll]; omega) hX1
  have hov : ∀ W lb cb, W.heap[b]? = some (.cells cur 38 (0, 0)) → W.heap[q]? = some (.cells #[.int .u64 x.1, .int .i64 x.2] 38 (0, 0)) → (callFunc 60 #[.slice (some ⟨q, 0, none⟩) 1 1, .slice (some ⟨b, (i + 1) * 2, none⟩) lb cb]).run Try.prog W = .ok (.value (.bool false)) W := fun W lb cb h1 h2 => by
    rw [run_callFunc_extern Try.func60 (by kernel_rfl) (by kernel_rfl) (by kernel_rfl) (e := Extern.SlicesOverlaps.overlaps #[32, 32] #[4]) (by kernel_rfl),
      Lib.run_overlaps_apart W 32 4 38 Try.underlying32 2 (fun w => by simp [sizeOf, typeInfo]; rfl) ⟨q, 0, none⟩ ⟨b, (i + 1) * 2, none⟩ 1 1 lb cb hqb 38 38 2 (c * 2) (by simp [World.shape?, h2]) (by simp [World.shape?, h1, hcs]) (by omega) (frozen_of h2 0) (frozen_of h2 2)]
    rfl
  have hov0 : ∀ lb cb, (callFunc 60 #[.slice (some ⟨q, 0, none⟩) 1 1, .slice (some ⟨b, (i + 1) * 2, none⟩) lb cb]).run Try.prog w = .ok (.value (.bool false)) w := fun lb cb => hov w lb cb hg hq
  have HF : Hid (InsPost l i x (.slice (some ⟨b, 0, none⟩) l.length c) w (.returned (.slice (some ⟨b, 0, none⟩) (n + 1) c)) (W1.setRow b (lay (lay cur.toList ((i + 1) * 2) D) (i * 2) (fch x)).toArray)) := Lib.hid (by
    rw [hn]
    refine ⟨_, _, rfl, ⟨?_, .inr ⟨b, c, (lay (lay cur.toList ((i + 1) * 2) D) (i * 2) (fch x)).toArray, ?_, Nat.zero_le _, heap_setRow hg1, ?_, hcm, ?_, ?_⟩⟩, (hC1.trans (chg_setRow _ b _) (fun _ _ h => h)).mono (fun k _ e => by rw [e]; rfl), fun k hk => .inl hk⟩
    · rw [layC.length]
    · simp; omega
    · simp; omega
    · have : (lay (lay cur.toList ((i + 1) * 2) D) (i * 2) (fch x)).length = c * 2 := by
        rw [lay_len (by rw [hll]; show i * 2 + 2 ≤ _; omega)]; exact hll
      simpa using this
    · have := lay_shift (X := cur.toList) (D := D) (cs := fch x) (o := i * 2) (by rw [hcl, hD]; show i * 2 + 2 + _ ≤ _; omega)
      rw [show i * 2 + (fch x).length = (i + 1) * 2 by show i * 2 + 2 = _; omega] at this
      have hlen2 : (l.take i ++ x :: l.drop i).length * 2 = (i + 1) * 2 + D.length := by simp [hD]; omega
      rw [hlen2]
      show (lay (lay cur.toList ((i + 1) * 2) D) (i * 2) (fch x)).take _ = _
      rw [this, htk, hDe]
      simp)
  rw [← hn] at HF
  rw [← hW1] at hcp1
  have HN := Lib.hid hn
  have hci : ¬ c = i + 1 := by omega
  have hci2 : ¬ c = i := by omega
  have hin : i + 1 ≤ n := by omega
  clear hO hq hlen htake hbg hg hnc hcm hcs hcl hdrop hTl htk hdk hDe hD hD1 hX1 hn hW1 hg1 hC1 hq1 hll hov
  go_enter Try.func35, Try.ntmps35
  go_wp2_with (simp only [hov0])
  have hw1 : IntKind.i64.wrap ((i : Int) + 1) = (i : Int) + 1 := by rw [IntKind.wrap_i64]; omega
  have htn : ((i : Int) + 1).toNat = i + 1 := by omega
  have hb1 : (0 : Int) ≤ (i : Int) + 1 := by omega
  have hb3 : (i : Int) + 1 ≤ (n : Int) + 1 := by omega
  have hb4 : (i : Int) ≤ (n : Int) + 1 := by omega
  refine J.wp_region_seq (fun _ => True) [(0, 0), (1, 0), (2, 0), (3, 0), (4, 0), (5, 0), (6, 0), (7, 0), (8, 1)] (by kernel_rfl) (by kernel_rfl) (by kernel_rfl) trivial ?_
  iterate 8 (apply J.look (by rfl) (by rfl); (focus (intro W _; go_simp; (try simp only [hw1, htn, hb1, hb3, hb4, hci, hci2, and_self, if_true, if_false]); exact HasV.val rfl)); simp only [Act.put, List.setIfInBounds_toArray, List.set_cons_zero, List.set_cons_succ])
  refine J.final (fun u W => u = goInt ((n - i : Nat) : Int) ∧ W = W1) (by rfl) (by rfl) (by kernel_rfl) (hasR_copy _ _ 32 32 rfl (.slice (some ⟨b, (i + 1) * 2, none⟩) (n - i) (c - (i + 1))) (.slice (some ⟨b, i * 2, none⟩) (n + 1 - i) (c - i)) rfl rfl (hcp1 _ _ _) ⟨rfl, rfl⟩) ?_
  rintro u W ⟨rfl, rfl⟩
  simp only [Act.put, List.setIfInBounds_toArray, List.set_cons_zero, List.set_cons_succ]
  refine J.fin ?_
  go_wp2_with (at_builtin; refine wpList_copy_at _ rfl _ _ 32 32 rfl (.slice (some ⟨b, i * 2, none⟩) (n + 1 - i) (c - i)) (.slice (some ⟨q, 0, none⟩) 1 1) rfl rfl (hcp2 _ _) ?_)
  go_ret
  exact HF.out
set_option maxRecDepth 20000 in
set_option maxHeartbeats 4000000 in
theorem insert_grow {w : World} {l : List (Int × Int)} {b c q i : Nat} (hO : OwnF w 38 2 fch (.slice (some ⟨b, 0, none⟩) l.length c) l) (x : Int × Int) (hq : w.heap[q]? = some (.cells #[.int .u64 x.1, .int .i64 x.2] 38 (0, 0))) (hi : i < l.length) (hl : l.length ≤ 1000) (hc : c < l.length + 1) :
    Calls Try.prog 35 #[.slice (some ⟨b, 0, none⟩) l.length c, .int .i64 i, .slice (some ⟨q, 0, none⟩) 1 1] w (InsPost l i x (.slice (some ⟨b, 0, none⟩) l.length c) w) := by
  obtain ⟨hlen, h | ⟨g, cap, cur, e, hbg, hg, hnc, hcm, hcs, htake⟩⟩ := id hO
  · cases h.1
  simp only [Value.slice.injEq, Option.some.injEq, Addr.mk.injEq, and_true, true_and] at e
  obtain ⟨rfl, rfl⟩ := e
  have hcl : cur.toList.length = c * 2 := by rw [Array.length_toList]; exact hcs
  have hD : ((l.drop i).flatMap fch).length = (l.length - i) * 2 := by rw [layC.length, List.length_drop]
  have hdrop : l.flatMap fch = (l.take i).flatMap fch ++ (l.drop i).flatMap fch := by rw [← List.flatMap_append, List.take_append_drop]
  have hTl : ((l.take i).flatMap fch).length = i * 2 := by rw [layC.length, List.length_take]; omega
  have htk : cur.toList.take (i * 2) = (l.take i).flatMap fch := by
    have h1 : cur.toList.take (i * 2) = (cur.toList.take (l.length * 2)).take (i * 2) := by rw [List.take_take, Nat.min_eq_left (by omega)]
    rw [h1, htake, hdrop, List.take_append_of_le_length (by omega), List.take_of_length_le (by omega)]
  have hdk : ∀ j u, ((l.drop i).flatMap fch)[j]? = some u → cur[i * 2 + j]? = some u := by
    intro j u hu
    have h0 : (l.flatMap fch)[i * 2 + j]? = some u := by
      rw [hdrop, List.getElem?_append_right (by omega), hTl, Nat.add_sub_cancel_left]
      exact hu
    rw [← htake, List.getElem?_take] at h0
    split at h0
    · rw [← Array.getElem?_toList]; exact h0
    · cases h0
  have htk2 : ∀ (j : Nat) (u : Value), ((l.take i).flatMap fch)[j]? = some u → cur[j]? = some u := by
    intro j u hu
    rw [← htk, List.getElem?_take] at hu
    split at hu
    · rw [← Array.getElem?_toList]; exact hu
    · cases hu
  obtain ⟨D, hDe⟩ : ∃ D, D = (l.drop i).flatMap fch := ⟨_, rfl⟩
  rw [← hDe] at hD hdk
  obtain ⟨T, hTe⟩ : ∃ T, T = (l.take i).flatMap fch := ⟨_, rfl⟩
  rw [← hTe] at hTl htk htk2
  have hD1 : ∀ u ∈ D, u.oneCell' = true := by rw [hDe]; exact layC.ones _
  have hX1 : ∀ u ∈ fch x, u.oneCell' = true := layC.one x
  obtain ⟨n, hn⟩ : ∃ n, n = l.length := ⟨_, rfl⟩
  rw [← hn] at hD hi hc hl hnc ⊢
  obtain ⟨ii, hii, hzz⟩ := Option.map_eq_some_iff.1 info38
  simp only [Prod.mk.injEq] at hzz
  obtain ⟨hz, hsz, hby⟩ := hzz
  have hap : ∀ ty, (Builtin.append_ #[32, 3] ty #[.slice (some ⟨b, 0, none⟩) i c, .int .i64 ((n + 1 - i : Nat) : Int)]).run Try.prog w = .ok (.slice (some ⟨w.heap.size, 0, none⟩) (i + (n + 1 - i)) (grownCap w (i + (n + 1 - i)) c 38)) (w.drew.alloc (.cells (T.toArray ++ Builtin.zeroCells (Value.agg #[.int .u64 0, .int .i64 0]).cells (n + 1 - i) ++ Builtin.zeroCells (Value.agg #[.int .u64 0, .int .i64 0]).cells (grownCap w (i + (n + 1 - i)) c 38 - (i + (n + 1 - i)))) 38)) := fun ty =>
    Lib.run_append_grow_zeros w 32 3 ty 38 ii _ .i64 .i64 Try.underlying32 Try.underlying3 hii hz (some ⟨b, 0, none⟩) i c T (by
      have hload := run_loadCells_list (P := Try.prog) w.drew ⟨b, 0, none⟩ T (fun (j : Nat) (u : Value) (hu : T[j]? = some u) => by
        rw [add_zero]
        exact cell_of (w := w.drew) hg j (htk2 j u hu))
      rw [hTl, ← hsz] at hload
      exact hload) (n + 1 - i) (by omega) (by omega) (by omega) (by omega) (by rw [hby]; omega) (growslice_fits (by omega) (by rw [hby]; omega))
  rw [show i + (n + 1 - i) = n + 1 by omega] at hap
  obtain ⟨C, hC⟩ : ∃ C, C = grownCap w (n + 1) c 38 := ⟨_, rfl⟩
  have hCge : n + 1 ≤ C := by rw [hC]; exact grownCap_ge w (n + 1) c 38
  have hCle : C ≤ maxLen := by rw [hC]; exact grownCap_le_maxLen w (n + 1) c 38 (by unfold maxLen; omega)
  rw [← hC] at hap
  obtain ⟨X, hX⟩ : ∃ X, X = T.toArray ++ Builtin.zeroCells (Value.agg #[.int .u64 0, .int .i64 0]).cells (n + 1 - i) ++ Builtin.zeroCells (Value.agg #[.int .u64 0, .int .i64 0]).cells (C - (n + 1)) := ⟨_, rfl⟩
  rw [← hX] at hap
  have hXs : X.size = C * 2 := by
    rw [hX]
    simp only [Array.size_append, List.size_toArray, size_zeroCells, hTl]
    show i * 2 + (n + 1 - i) * 2 + (C - (n + 1)) * 2 = _
    omega
  have hXl : X.toList.length = C * 2 := by rw [Array.length_toList]; exact hXs
  have hXt : X.toList.take (i * 2) = T := by
    rw [hX]
    simp only [Array.toList_append, List.append_assoc]
    rw [List.take_append_of_le_length (by rw [hTl]; omega), List.take_of_length_le (by rw [hTl]; omega)]
  obtain ⟨B, hB⟩ : ∃ B, B = w.heap.size := ⟨_, rfl⟩
  have hbB : b ≠ B := by have := heap_lt hg; omega
  have hqB : q ≠ B := by have := heap_lt hq; omega
  rw [← hB] at hap
  obtain ⟨W0, hW0⟩ : ∃ W0, W0 = w.drew.alloc (.cells X 38) := ⟨_, rfl⟩
  rw [← hW0] at hap
  have hC0 : Chg (fun _ => False) w W0 := by rw [hW0]; exact (Chg.refl _ w).drew.alloc _
  have hg0 : W0.heap[B]? = some (.cells X 38 (0, 0)) := by rw [hW0, hB]; exact heap_alloc_at w.drew _
  have hq0 := chg_heap0 hC0 hq
  have hb0 := chg_heap0 hC0 hg
  have hcp1 : ∀ ty, (Builtin.copy_ #[32, 32] ty #[.slice (some ⟨B, i * 2, none⟩) (n + 1 - i) (C - i), .slice (some ⟨q, 0, none⟩) 1 1]).run Try.prog W0 = .ok (goInt ((1 : Nat) : Int)) (W0.setRow B (lay X.toList (i * 2) (fch x)).toArray) := fun ty =>
    run_copy_rows (sz := 2) W0 32 32 ty 38 B (i * 2) (n + 1 - i) (C - i) ⟨q, 0, none⟩ 1 1 _ 38 (fch x) 1 (by simp only [Nat.min_def]; split <;> omega) Try.underlying32 rfl hg0 rfl (fun j u hu => by
      rw [add_zero]
      exact cell_of hq0 _ (by simpa [fch] using hu)) (by
      show i * 2 + 2 ≤ X.size
      omega) hX1
  obtain ⟨W1, hW1⟩ : ∃ W1, W1 = W0.setRow B (lay X.toList (i * 2) (fch x)).toArray := ⟨_, rfl⟩
  have hg1 : W1.heap[B]? = some (.cells (lay X.toList (i * 2) (fch x)).toArray 38 (0, 0)) := by rw [hW1]; exact heap_setRow hg0
  have hC1 : Chg (fun k => k = B) W0 W1 := by rw [hW1]; exact chg_setRow _ B _
  have hb1 : W1.heap[b]? = some (.cells cur 38 (0, 0)) := (hC1.block b (heap_lt hb0) hbB).trans hb0
  have hll : (lay X.toList (i * 2) (fch x)).length = C * 2 := by rw [lay_len (by show i * 2 + 2 ≤ _; omega)]; exact hXl
  rw [← hW1] at hcp1
  have hcp2 : ∀ ty, (Builtin.copy_ #[32, 32] ty #[.slice (some ⟨B, (i + 1) * 2, none⟩) (n - i) (C - (i + 1)), .slice (some ⟨b, i * 2, none⟩) (n - i) (c - i)]).run Try.prog W1.drew = .ok (goInt ((n - i : Nat) : Int)) (W1.drew.setRow B (lay (lay X.toList (i * 2) (fch x)) ((i + 1) * 2) D).toArray) := fun ty =>
    run_copy_rows (sz := 2) W1.drew 32 32 ty 38 B ((i + 1) * 2) (n - i) _ ⟨b, i * 2, none⟩ (n - i) _ _ 38 D (n - i) (Nat.min_self _) Try.underlying32 rfl hg1 hD (fun j u hu => by
      rw [show (⟨b, i * 2, none⟩ : Addr).add j = ⟨b, i * 2 + j, none⟩ by unfold Addr.add; split <;> simp_all]
      exact cell_of (w := W1.drew) hb1 _ (hdk j u hu)) (by
      show (i + 1) * 2 + D.length ≤ (lay X.toList (i * 2) (fch x)).toArray.size
      simp [hll, hD]; omega) hD1
  obtain ⟨W2, hW2⟩ : ∃ W2, W2 = W1.drew.setRow B (lay (lay X.toList (i * 2) (fch x)) ((i + 1) * 2) D).toArray := ⟨_, rfl⟩
  rw [← hW2] at hcp2
  have HF : Hid (InsPost l i x (.slice (some ⟨b, 0, none⟩) l.length c) w (.returned (.slice (some ⟨B, 0, none⟩) (n + 1) C)) W2) := Lib.hid (by
    rw [hn, hW2]
    have hC2 : Chg (fun k => k = B) W0 (W1.drew.setRow B (lay (lay X.toList (i * 2) (fch x)) ((i + 1) * 2) D).toArray) := (hC1.drew).trans (chg_setRow _ B _) (fun _ _ h => h)
    refine ⟨_, _, rfl, ⟨?_, .inr ⟨B, C, (lay (lay X.toList (i * 2) (fch x)) ((i + 1) * 2) D).toArray, ?_, Nat.zero_le _, heap_setRow (w := W1.drew) hg1, ?_, hCle, ?_, ?_⟩⟩, (hC0.mono (fun _ _ h => h.elim)).trans hC2 (fun k hk e => by omega), fun k hk => .inr ?_⟩
    · rw [layC.length]
    · simp; omega
    · simp; omega
    · have : (lay (lay X.toList (i * 2) (fch x)) ((i + 1) * 2) D).length = C * 2 := by
        rw [lay_len (by rw [hll, hD]; omega)]; exact hll
      simpa using this
    · have := lay_back (X := X.toList) (D := D) (cs := fch x) (o := i * 2) (by rw [hXl, hD]; show i * 2 + 2 + _ ≤ _; omega)
      rw [show i * 2 + (fch x).length = (i + 1) * 2 by show i * 2 + 2 = _; omega] at this
      have hlen2 : (l.take i ++ x :: l.drop i).length * 2 = (i + 1) * 2 + D.length := by simp [hD]; omega
      rw [hlen2]
      show (lay (lay X.toList (i * 2) (fch x)) ((i + 1) * 2) D).take _ = _
      rw [this, hXt, hDe, hTe]
      simp
    · simp [Value.ownBlock] at hk; omega)
  rw [← hn] at HF
  have HN := Lib.hid hn
  have hci2 : ¬ c = i := by omega
  have hCi : ¬ C = i := by omega
  have hCi1 : ¬ C = i + 1 := by omega
  have hcn : n ≤ c := hnc
  have hw1 : IntKind.i64.wrap ((i : Int) + 1) = (i : Int) + 1 := by rw [IntKind.wrap_i64]; omega
  have hw2 : IntKind.i64.wrap ((n : Int) + 1 - (i : Int)) = (n : Int) + 1 - (i : Int) := by rw [IntKind.wrap_i64]; omega
  have hap : ∀ ty, (Builtin.append_ #[32, 3] ty #[.slice (some ⟨b, 0, none⟩) i c, .int .i64 ((n : Int) + 1 - (i : Int))]).run Try.prog w = .ok (.slice (some ⟨B, 0, none⟩) (n + 1) C) W0 := fun ty => by
    rw [← hap ty, show ((n + 1 - i : Nat) : Int) = (n : Int) + 1 - (i : Int) by omega]
  clear hO hq hlen htake hbg hg hcm hcs hcl hdrop hTl htk hdk hDe hD hD1 hX1 hn hW1 hg1 hC1 hll hCle hX hXs hXl hXt hB hbB hqB hW0 hC0 hg0 hq0 hb0 hb1 hW2 hTe htk2 hii hz hsz hby hC
  go_enter Try.func35, Try.ntmps35
  go_wp2_with (at_builtin; refine wpList_append_at _ rfl _ _ 32 3 rfl (.slice (some ⟨b, 0, none⟩) i c) (.int .i64 ((n : Int) + 1 - (i : Int))) rfl rfl (hap _) ?_)
  have htn : ((i : Int) + 1).toNat = i + 1 := by omega
  have hb1 : (0 : Int) ≤ (i : Int) + 1 := by omega
  have hb3 : (i : Int) + 1 ≤ (n : Int) + 1 := by omega
  have hb4 : (i : Int) ≤ (n : Int) := by omega
  refine J.wp_region_seq (fun _ => True) [(0, 0), (1, 0), (2, 0), (3, 0), (4, 0), (5, 0), (6, 0), (7, 0), (8, 1)] (by kernel_rfl) (by kernel_rfl) (by kernel_rfl) trivial ?_
  iterate 8 (apply J.look (by rfl) (by rfl); (focus (intro W _; go_simp; (try simp only [hw1, htn, hb1, hb3, hb4, hci2, hCi, hCi1, and_self, if_true, if_false]); exact HasV.val rfl)); simp only [Act.put, List.setIfInBounds_toArray, List.set_cons_zero, List.set_cons_succ])
  refine J.final (fun u W => u = goInt ((n - i : Nat) : Int) ∧ W = W2) (by rfl) (by rfl) (by kernel_rfl) (hasR_copy _ _ 32 32 rfl (.slice (some ⟨B, (i + 1) * 2, none⟩) (n - i) (C - (i + 1))) (.slice (some ⟨b, i * 2, none⟩) (n - i) (c - i)) rfl rfl (hcp2 _) ⟨rfl, rfl⟩) ?_
  rintro u W ⟨rfl, rfl⟩
  simp only [Act.put, List.setIfInBounds_toArray, List.set_cons_zero, List.set_cons_succ]
  refine J.fin ?_
  go_wp2
  go_ret
  exact HF.out
theorem insert_any {w : World} {v : Value} {l : List (Int × Int)} {q i : Nat} (hO : OwnF w 38 2 fch v l) (x : Int × Int) (hq : w.heap[q]? = some (.cells #[.int .u64 x.1, .int .i64 x.2] 38 (0, 0))) (hqb : v.ownBlock ≠ some q) (hi : i ≤ l.length) (hl : l.length ≤ 1000) :
    Calls Try.prog 35 #[v, .int .i64 i, .slice (some ⟨q, 0, none⟩) 1 1] w (InsPost l i x v w) := by
  by_cases h : i = l.length
  · subst h
    exact insert_end hO x hq hl
  · obtain ⟨b, c, cur, rfl, hv, _, hc, _⟩ := hO.at_ layC d0 (by omega)
    have hqb2 : q ≠ b := fun e => hqb (by rw [e]; rfl)
    by_cases h2 : l.length + 1 ≤ c
    · exact insert_room hO x hq hqb2 (by omega) hl h2
    · exact insert_grow hO x hq (by omega) hl (by omega)
end Go.Proofs.Ytpndkelbchjkiaa
