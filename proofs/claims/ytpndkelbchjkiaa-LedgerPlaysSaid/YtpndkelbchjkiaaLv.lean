/- Slash. -/
import Derived.Test.YtpndkelbchjkiaaLe
import Derived.Lib.MinMax
set_option linter.unusedVariables false
set_option linter.unusedSimpArgs false
namespace Go.Proofs.Ytpndkelbchjkiaa
open Go.RowKit Go.Ps
set_option maxRecDepth 20000 in
set_option maxHeartbeats 1000000 in
theorem cut_any (p q : Addr) (x n : Int) (w : World) (hp : w.cell? p = some (.int .u64 x)) (hq : w.cell? q = some (.int .u64 n)) (fp : w.frozen? p = false) (fq : w.frozen? q = false) (hpq : p ≠ q) (hx : U64 x) (hn : U64 n) :
    Calls Try.prog 39 #[.pointer (some p), .pointer (some q)] w fun e w' => e = .returned (.tuple #[]) ∧ w' = (w.drew.setCell p (.int .u64 (x - min n x))).setCell q (.int .u64 (n - min n x)) := by
  obtain ⟨m, hm⟩ : ∃ m, m = min n x := ⟨_, rfl⟩
  have hz1 : IntKind.u64.wrap (x - m) = x - m := by rw [wrap64u]; unfold U64 at hx hn; omega
  have hz2 : IntKind.u64.wrap (n - m) = n - m := by rw [wrap64u]; unfold U64 at hx hn; omega
  obtain ⟨z1, e1⟩ : ∃ z, x - m = z := ⟨_, rfl⟩
  obtain ⟨z2, e2⟩ : ∃ z, n - m = z := ⟨_, rfl⟩
  rw [← hm, e1, e2]
  replace hz1 := hz1.trans e1
  replace hz2 := hz2.trans e2
  have HM := Lib.hid hm
  obtain ⟨w0, hw0⟩ : ∃ w0, w.drew = w0 := ⟨_, rfl⟩
  have hp2 : w0.cell? p = some (.int .u64 x) := by rw [← hw0]; exact hp
  have fp2 : w0.frozen? p = false := by rw [← hw0]; exact fp
  have hq2 : (w0.setCell p (.int .u64 z1)).cell? q = some (.int .u64 n) := by rw [World.cell?_setCell_other _ _ _ _ hpq, ← hw0]; exact hq
  have fq2 : (w0.setCell p (.int .u64 z1)).frozen? q = false := by
    have : w0.frozen? q = false := by rw [← hw0]; exact fq
    simpa using this
  rw [hw0]
  have HW := Lib.hid hw0
  clear hx hn hm e1 e2 fq fp hw0
  go_enter Try.func39, Try.ntmps39
  go_wp2_with fail
  refine J.wp_region_seq (fun W => W.cell? p = some (.int .u64 x) ∧ W.cell? q = some (.int .u64 n)) [(0, 0), (1, 0), (2, 0), (3, 0), (4, 0), (5, 0)] (by kernel_rfl) (by kernel_rfl) (by kernel_rfl) ⟨hp, hq⟩ ?_
  iterate 4 (apply J.look (by rfl) (by rfl); (focus (intro W hW; obtain ⟨hW0, hW1⟩ := hW; go_simp; exact HasV.val rfl)); simp only [Act.put, List.setIfInBounds_toArray, List.set_cons_zero, List.set_cons_succ])
  apply J.look (v := .int .u64 m) (by rfl) (by rfl)
  · intro W hW
    go_simp
    rw [← HM.out]
    exact HasV.val rfl
  simp only [Act.put, List.setIfInBounds_toArray, List.set_cons_zero, List.set_cons_succ]
  apply J.look (by rfl) (by rfl); (focus (intro W hW; go_simp; exact HasV.val rfl)); simp only [Act.put, List.setIfInBounds_toArray, List.set_cons_zero, List.set_cons_succ]
  refine J.fin ?_
  rw [HW.out]
  clear hp hq
  go_wp2
  go_end0
  exact ⟨rfl, rfl⟩
set_option maxRecDepth 20000 in
set_option maxHeartbeats 1000000 in
theorem cls40 (l : List (Int × Int)) : Cls 40 [] l (fun x => decide (x.1 = 0)) (fun _ _ => True) (fun _ => False) := by
  intro k W hk _
  simp only [aggC, List.append_toArray, List.cons_append, List.nil_append]
  obtain ⟨x, hx⟩ : ∃ x, x = l.getD k d0 := ⟨_, rfl⟩
  rw [← hx]
  clear hx hk
  obtain ⟨x1, x2⟩ := x
  have hC : Chg (fun _ => False) W (W.alloc (.cells #[.int .u64 x1, .int .i64 x2] 38)) := (Chg.refl _ W).alloc _
  have HC := Lib.hid hC
  clear hC
  simp only
  go_enter Try.func40, Try.ntmps40
  go_wp2
  go_ret
  have hb : decide (x1 = 0) = (x1 == 0) := by rw [Bool.eq_iff_iff]; simp
  exact ⟨by rw [hb]; rfl, trivial, HC.out⟩
/-- What is left of chunks, the last one cut first. -/
def sl : List (Int × Int) → Int → List (Int × Int) × Int
  | [], n => ([], n)
  | x :: l, n => ((x.1 - min (sl l n).2 x.1, x.2) :: (sl l n).1, (sl l n).2 - min (sl l n).2 x.1)
theorem sl_len : ∀ (l : List (Int × Int)) (n : Int), (sl l n).1.length = l.length
  | [], _ => rfl
  | x :: l, n => by simp [sl, sl_len l n]
theorem sl_le : ∀ (l : List (Int × Int)) (n : Int), 0 ≤ n → (∀ x ∈ l, 0 ≤ x.1) → 0 ≤ (sl l n).2 ∧ (sl l n).2 ≤ n
  | [], n, h, _ => ⟨h, Int.le_refl _⟩
  | x :: l, n, h, hx => by
    have := sl_le l n h (fun y hy => hx y (List.mem_cons_of_mem _ hy))
    have h2 := hx x (List.mem_cons_self ..)
    simp only [sl]
    omega
def slS (l : List (Int × Int)) (n : Int) (k : Nat) : List (Int × Int) := l.take k ++ (sl (l.drop k) n).1
theorem drop_consC (l : List (Int × Int)) (k : Nat) (h : k < l.length) : l.drop k = l.getD k d0 :: l.drop (k + 1) := by
  rw [List.getD_eq_getElem?_getD, List.getElem?_eq_getElem h]
  exact List.drop_eq_getElem_cons h
theorem slS_len (l : List (Int × Int)) (n : Int) (k : Nat) (h : k ≤ l.length) : (slS l n k).length = l.length := by
  simp [slS, sl_len]; omega
theorem slS_get (l : List (Int × Int)) (n : Int) (k : Nat) (h : k < l.length) : (slS l n (k + 1)).getD k d0 = l.getD k d0 := by
  unfold slS
  rw [List.getD_eq_getElem?_getD, List.getElem?_append_left (by simp; omega), List.getElem?_take_of_lt (by omega), ← List.getD_eq_getElem?_getD]
theorem slS_step (l : List (Int × Int)) (n : Int) (k : Nat) (h : k < l.length) : (slS l n (k + 1)).set k ((l.getD k d0).1 - min (sl (l.drop (k + 1)) n).2 (l.getD k d0).1, (l.getD k d0).2) = slS l n k := by
  unfold slS
  rw [drop_consC l k h]
  simp only [sl]
  rw [take_snocC l k h, List.append_assoc, List.set_append_right _ _ (by simp; omega)]
  have : k - (l.take k).length = 0 := by simp; omega
  rw [this]
  simp
theorem slS_left (l : List (Int × Int)) (n : Int) (k : Nat) (h : k < l.length) : (sl (l.drop k) n).2 = (sl (l.drop (k + 1)) n).2 - min (sl (l.drop (k + 1)) n).2 (l.getD k d0).1 := by
  rw [drop_consC l k h]
  rfl
theorem OwnF.congr {α : Type} {w : World} {e : TypeId} {sz : Nat} {f : α → List Value} {v : Value} {l l' : List α} (h : OwnF w e sz f v l) (h1 : l'.length = l.length) (h2 : l'.flatMap f = l.flatMap f) : OwnF w e sz f v l' := by
  unfold OwnF
  rw [h1, h2]
  exact h
theorem flatMap_set (L : List Row) (i : Nat) (x : Row) (h : facc x = facc (L.getD i r0)) : (L.set i x).flatMap facc = L.flatMap facc := by
  simp only [List.flatMap_def, List.map_set]
  congr 1
  by_cases hi : i < L.length
  · rw [h, List.getD_eq_getElem?_getD, List.getElem?_eq_getElem hi]
    apply List.ext_getElem?
    intro j
    rw [List.getElem?_set]
    split
    · rename_i e
      subst e
      simp [hi]
    · rfl
  · rw [List.set_eq_of_length_le (by simp; omega)]
/-- A chunk's amount stored. -/
theorem Stp.chunk {tG tA tC : TypeId} {W : World} {g m b2 k : Nat} {V : Value} {L : List Row} {s : S} {hd : S → List Value} (hh : Hds hd) (h : LS tG tA tC hd W g V L s) (hm : m < L.length) (hb : (L.getD m r0).v.ownBlock = some b2) (hk : k < (s.acc.getD m a0).ch.length) (x : Int) :
    Stp tG tA tC hd W (W.setCell ⟨b2, k * 2, none⟩ (.int .u64 x)) g V L { s with acc := s.acc.set m { s.acc.getD m a0 with ch := (s.acc.getD m a0).ch.set k (x, ((s.acc.getD m a0).ch.getD k d0).2) } } := by
  have hxx : (L.getD m r0).1 = s.acc.getD m a0 := by rw [← fst_getD, h.acc]
  have hO := h.at_.chs m hm
  obtain ⟨A, c, e1, _⟩ := hO.form
  rw [hxx] at e1 hO
  have hcg : Chg (fun j => j = b2) W (W.setCell ⟨b2, k * 2, none⟩ (.int .u64 x)) := Chg.setCell (F := fun j => j = b2) (p := ⟨b2, k * 2, none⟩) (Chg.refl _ W) (fun _ => rfl) _
  have hO2 := OwnF.set layC hO hb hk (j := 0) (by omega) (d := d0) (x, ((s.acc.getD m a0).ch.getD k d0).2) (.int .u64 x) rfl
  have hr : OwnF (W.setCell ⟨b2, k * 2, none⟩ (.int .u64 x)) tA 4 facc V L := h.at_.rows.chg hcg (fun j hj e => (h.at_.vs m b2 hm hb).2 (e ▸ hj))
  have hrep := h.at_.rep hm (x := mkR { s.acc.getD m a0 with ch := (s.acc.getD m a0).ch.set k (x, ((s.acc.getD m a0).ch.getD k d0).2) } A c) (hcg.mono (fun j _ e => .inr (e ▸ hb))) (OwnF.congr hr (by simp) (flatMap_set L m _ (by
      rw [show facc (L.getD m r0) = [.int .u64 (L.getD m r0).1.free, .int .u64 (L.getD m r0).1.bonded, .int .u64 (L.getD m r0).1.dep, (L.getD m r0).v] from rfl, e1, hxx]
      simp [facc, mkR, Row.v]))) (by
      rw [show (mkR { s.acc.getD m a0 with ch := (s.acc.getD m a0).ch.set k (x, ((s.acc.getD m a0).ch.getD k d0).2) } A c).v = (L.getD m r0).v by
        rw [e1]
        simp [mkR, Row.v]]
      exact hO2) (fun j hj => .inl (by
        rw [e1, ← hj]
        simp [mkR, Row.v, Value.ownBlock]))
  refine ⟨_, ⟨?_, ?_⟩, ?_, hrep.2⟩
  · rw [hh.iss]
    exact hrep.1
  · rw [List.map_set, h.acc]
    rfl
  · simp
/-- Where the cut stands: a ledger of s, and the box of what is left. -/
def SI (w : World) (g bl : Nat) (V : Value) (L : List Row) (s : S) (left : Int) (wr : World) : Prop :=
  ∃ L', LS 64 34 38 S.hd wr g V L' s ∧ L'.length = L.length ∧ Chg (Mine g V L) w wr ∧ (∀ k, Mine g V L' k → Mine g V L k ∨ w.heap.size ≤ k) ∧ ¬ Mine g V L' bl ∧ wr.heap[bl]? = some (.cells #[.int .u64 left] 24 (0, 0))
theorem SI.stp {w wr : World} {g bl : Nat} {V : Value} {L : List Row} {s : S} {left : Int} (h : SI w g bl V L s left wr) : Stp 64 34 38 S.hd w wr g V L s := by
  obtain ⟨L', h1, h2, h3, h4, _⟩ := h
  exact ⟨L', h1, h2, h3, h4⟩
theorem SI.step {w wr W2 : World} {g bl : Nat} {V : Value} {L : List Row} {s' : S} {left : Int} {L' : List Row} (h2 : L'.length = L.length) (h3 : Chg (Mine g V L) w wr) (h4 : ∀ k, Mine g V L' k → Mine g V L k ∨ w.heap.size ≤ k) (h5 : ¬ Mine g V L' bl) (h6 : wr.heap[bl]? = some (.cells #[.int .u64 left] 24 (0, 0))) (hbl : w.heap.size ≤ bl) (left' : Int) (k : Stp 64 34 38 S.hd wr W2 g V L' s') :
    SI w g bl V L s' left' (W2.setCell ⟨bl, 0, none⟩ (.int .u64 left')) := by
  obtain ⟨L'', k1, k2, k3, k4⟩ := k
  have hlt := heap_lt h6
  have hn : ¬ Mine g V L'' bl := fun e => by
    rcases k4 bl e with e | e
    · exact h5 e
    · omega
  have hc : Chg (fun j => j = bl) W2 (W2.setCell ⟨bl, 0, none⟩ (.int .u64 left')) := Chg.setCell (F := fun j => j = bl) (p := ⟨bl, 0, none⟩) (Chg.refl _ W2) (fun _ => rfl) _
  have h62 := (k3.block bl hlt h5).trans h6
  refine ⟨L'', ⟨k1.at_.chg hc (fun j hj e => hn (e ▸ hj)), k1.acc⟩, k2.trans h2, (h3.trans k3 (fun j hj hm => (h4 j hm).elim id (fun h => absurd hj (by omega)))).trans hc (fun j hj e => by omega), fun j hj => ?_, hn, ?_⟩
  · rcases k4 j hj with e | e
    · exact h4 j e
    · exact .inr (Nat.le_trans h3.size e)
  · have := heap_setCell h62 0 (.int .u64 left')
    simpa using this
/-- What a slash leaves of an account, and what of the amount. -/
def Ac.cut (a : Ac) (n : Int) : Ac × Int :=
  ({ a with bonded := a.bonded - min n a.bonded, ch := (sl a.ch (n - min n a.bonded)).1.filter (fun x => !decide (x.1 = 0)) }, (sl a.ch (n - min n a.bonded)).2)
def S.slash (s : S) (id n : Int) : S × Int × Int :=
  if s.bad id then (s, 0, 5)
  else ({ s with acc := s.acc.set id.toNat ((s.acc.getD id.toNat a0).cut n).1, tre := (s.tre + (n - ((s.acc.getD id.toNat a0).cut n).2)) % 18446744073709551616 }, n - ((s.acc.getD id.toNat a0).cut n).2, 0)
/-- Chunks are few, and their amounts are numbers. -/
def S.C (s : S) : Prop := ∀ i, i < s.acc.length → (s.acc.getD i a0).ch.length ≤ 1000 ∧ ∀ x ∈ (s.acc.getD i a0).ch, U64 x.1
theorem getD_mem {l : List (Int × Int)} {k : Nat} (h : k < l.length) : l.getD k d0 ∈ l := by
  rw [List.getD_eq_getElem?_getD, List.getElem?_eq_getElem h]
  exact List.getElem_mem h
/-- The ledger while the chunks of account m are cut: the ones behind k are. -/
def sK (s : S) (m : Nat) (B n : Int) (k : Nat) : S := { s with acc := s.acc.set m { s.acc.getD m a0 with bonded := B, ch := slS (s.acc.getD m a0).ch n k } }
theorem sK_get (s : S) (m : Nat) (B n : Int) (k : Nat) (hm : m < s.acc.length) : (sK s m B n k).acc.getD m a0 = { s.acc.getD m a0 with bonded := B, ch := slS (s.acc.getD m a0).ch n k } := getD_setA _ _ _ hm
theorem slash_step {w wr : World} {g bl b m k : Nat} {V : Value} {L : List Row} {s : S} {left B n1 : Int} (h : SI w g bl V L (sK s m B n1 (k + 1)) left wr) (hbl : w.heap.size ≤ bl) (hm : m < s.acc.length) (hL : L.length = s.acc.length) (hk : k < (s.acc.getD m a0).ch.length) (hleft : left = (sl ((s.acc.getD m a0).ch.drop (k + 1)) n1).2) (hb : V.ownBlock = some b) :
    ∃ b2 cc, wr.cell? ⟨b, m * 4 + 3, none⟩ = some (.slice (some ⟨b2, 0, none⟩) (s.acc.getD m a0).ch.length cc) ∧ wr.cell? ⟨b2, k * 2, none⟩ = some (.int .u64 ((s.acc.getD m a0).ch.getD k d0).1) ∧ wr.frozen? ⟨b2, k * 2, none⟩ = false ∧ b2 ≠ bl ∧
      SI w g bl V L (sK s m B n1 k) (left - min left ((s.acc.getD m a0).ch.getD k d0).1) ((wr.drew.setCell ⟨b2, k * 2, none⟩ (.int .u64 (((s.acc.getD m a0).ch.getD k d0).1 - min left ((s.acc.getD m a0).ch.getD k d0).1))).setCell ⟨bl, 0, none⟩ (.int .u64 (left - min left ((s.acc.getD m a0).ch.getD k d0).1))) := by
  obtain ⟨L', h1, h2, h3, h4, h5, h6⟩ := id h
  have hmL : m < L'.length := by omega
  obtain ⟨b', c, A, cc, e1, e2, e3, hcells⟩ := h1.cells hmL
  obtain rfl : b = b' := by have := hb.symm.trans e3; simpa using this
  obtain ⟨_, _, _, _, c3⟩ := hcells wr (Chg.refl _ wr)
  have hgd := sK_get s m B n1 (k + 1) hm
  have hrow := h1.at_.chs m hmL
  have hxx : (L'.getD m r0).1 = (sK s m B n1 (k + 1)).acc.getD m a0 := by rw [← fst_getD, h1.acc]
  rw [hgd] at hxx e2 c3
  rw [hxx] at hrow
  simp only [slS_len _ n1 (k + 1) hk] at e2 c3
  have hk2 : k < (slS (s.acc.getD m a0).ch n1 (k + 1)).length := by rw [slS_len _ _ _ hk]; exact hk
  obtain ⟨b2, c2, q1, q2, q3, q4, q5, q6, q7⟩ := ownF_cells hrow hk2
  rw [slS_get _ _ _ hk] at q4
  simp only [slS_len _ n1 (k + 1) hk] at q1
  rw [e2] at q1
  simp only [Value.slice.injEq, true_and] at q1
  obtain ⟨rfl, rfl⟩ := q1
  refine ⟨b2, cc, c3, q4, q6, fun e => h5 (e ▸ .inr (.inr ⟨m, hmL, q2⟩)), ?_⟩
  have hst := Stp.chunk hds (h1.keep ((Chg.refl _ wr).drew)) hmL q2 (k := k) (by rw [hgd]; exact hk2) (((s.acc.getD m a0).ch.getD k d0).1 - min left ((s.acc.getD m a0).ch.getD k d0).1)
  rw [hgd] at hst
  simp only [slS_get _ _ _ hk] at hst
  rw [show { sK s m B n1 (k + 1) with acc := (sK s m B n1 (k + 1)).acc.set m { free := (s.acc.getD m a0).free, bonded := B, dep := (s.acc.getD m a0).dep, ch := (slS (s.acc.getD m a0).ch n1 (k + 1)).set k (((s.acc.getD m a0).ch.getD k d0).1 - min left ((s.acc.getD m a0).ch.getD k d0).1, ((s.acc.getD m a0).ch.getD k d0).2) } } = sK s m B n1 k by
    rw [hleft, slS_step _ _ _ hk]
    unfold sK
    simp only [List.set_set]] at hst
  exact SI.step (L' := L') h2 h3.drew h4 h5 h6 hbl _ hst
theorem Stp.glue {tG tA tC : TypeId} {hd : S → List Value} {w wr w2 : World} {g : Nat} {V : Value} {L L' : List Row} {s' : S} (h2 : L'.length = L.length) (h3 : Chg (Mine g V L) w wr) (h4 : ∀ k, Mine g V L' k → Mine g V L k ∨ w.heap.size ≤ k) (k : Stp tG tA tC hd wr w2 g V L' s') : Stp tG tA tC hd w w2 g V L s' := by
  obtain ⟨L'', k1, k2, k3, k4⟩ := k
  refine ⟨L'', k1, k2.trans h2, h3.trans k3 (fun j hj hm => (h4 j hm).elim id (fun h => absurd hj (by omega))), fun j hj => ?_⟩
  rcases k4 j hj with e | e
  · exact h4 j e
  · exact .inr (Nat.le_trans h3.size e)
theorem SI.cell3 {w wr : World} {g bl b m k : Nat} {V : Value} {L : List Row} {s : S} {left B n1 : Int} (h : SI w g bl V L (sK s m B n1 k) left wr) (hm : m < s.acc.length) (hL : L.length = s.acc.length) (hk : k ≤ (s.acc.getD m a0).ch.length) (hb : V.ownBlock = some b) :
    ∃ A cc, wr.cell? ⟨b, m * 4 + 3, none⟩ = some (.slice A (s.acc.getD m a0).ch.length cc) := by
  obtain ⟨L', h1, h2, h3, h4, h5, h6⟩ := id h
  obtain ⟨b', c, A, cc, e1, e2, e3, hcells⟩ := h1.cells (i := m) (by omega)
  obtain rfl : b = b' := by have := hb.symm.trans e3; simpa using this
  obtain ⟨_, _, _, _, c3⟩ := hcells wr (Chg.refl _ wr)
  rw [sK_get s m B n1 k hm] at c3
  simp only [slS_len _ n1 k hk] at c3
  exact ⟨A, cc, c3⟩
set_option maxRecDepth 20000 in
set_option maxHeartbeats 4000000 in
theorem slash_any {w : World} {g : Nat} {V : Value} {L : List Row} {s : S} (h : LS 64 34 38 S.hd w g V L s) (hU : s.U) (hSC : s.C) (id n : Int) (hn : U64 n) :
    Calls Try.prog 15 #[.pointer (some ⟨g, 0, none⟩), .int .i64 id, .int .u64 n] w fun e w' => e = .returned (.tuple #[.int .u64 (s.slash id n).2.1, .int .i64 (s.slash id n).2.2]) ∧ Stp 64 34 38 S.hd w w' g V L (s.slash id n).1 := by
  have hf := find_one h id
  unfold S.slash
  by_cases h0 : s.bad id
  · simp only [if_pos h0] at hf ⊢
    have HL := Lib.hid h
    clear h h0 hU hSC hn
    go_enter Try.func15, Try.ntmps15
    go_wp2_with fail
    refine hf.mono ?_
    rintro e w1 ⟨rfl, hC⟩
    have HC := Lib.hid hC
    clear hC hf
    go_wp2
    go_ret2
    exact ⟨rfl, Stp.refl HL.out HC.out⟩
  · simp only [if_neg h0] at hf ⊢
    obtain ⟨m, rfl⟩ : ∃ m : Nat, id = (m : Int) := ⟨id.toNat, by unfold S.bad at h0; omega⟩
    have hm : m < s.acc.length := by unfold S.bad at h0; omega
    simp only [Int.toNat_natCast]
    have hmL : m < L.length := by rw [h.len]; exact hm
    obtain ⟨hch, hcu⟩ := hSC m hm
    have hb1 : U64 (s.acc.getD m a0).bonded := hU (.acc m 1) ⟨hm, by omega⟩
    obtain ⟨b, c, A, cc, e1, e2, e3, hcells⟩ := h.cells hmL
    obtain ⟨a, ha⟩ : ∃ a, a = s.acc.getD m a0 := ⟨_, rfl⟩
    rw [← ha] at hch hcu hb1 hcells e2 ⊢
    obtain ⟨B0, hB0⟩ : ∃ B, B = a.bonded := ⟨_, rfl⟩
    rw [← hB0] at hb1 hcells
    obtain ⟨n1, hn1⟩ : ∃ n1, n - min n B0 = n1 := ⟨_, rfl⟩
    obtain ⟨B1, hB1⟩ : ∃ B1, B0 - min n B0 = B1 := ⟨_, rfl⟩
    obtain ⟨ff, hff⟩ : ∃ f, f = (a.cut n).2 := ⟨_, rfl⟩
    obtain ⟨z, hz⟩ : ∃ z, IntKind.u64.wrap (s.tre + (n - ff)) = z := ⟨_, rfl⟩
    have hffn : (sl a.ch n1).2 = ff := by rw [hff, ← hn1, hB0]; rfl
    have hn1u : 0 ≤ n1 := by rw [← hn1]; omega
    have hffu := sl_le a.ch n1 hn1u (fun x hx => (hcu x hx).1)
    rw [hffn] at hffu
    have hzn : IntKind.u64.wrap (n - ff) = n - ff := by rw [wrap64u]; unfold U64 at hn hb1; omega
    obtain ⟨D, hD⟩ : ∃ D, n - ff = D := ⟨_, rfl⟩
    rw [hD] at hz
    have hzn : IntKind.u64.wrap (n - ff) = D := hzn.trans hD
    rw [← hff, hD, ← wrap64u, hz]
    obtain ⟨ln, hln⟩ : ∃ n, n = L.length := ⟨_, rfl⟩
    obtain ⟨cn, hcn⟩ : ∃ n, n = a.ch.length := ⟨_, rfl⟩
    rw [← hcn] at hcells hch
    rw [← hln] at hcells hmL
    have HS := Lib.hid (⟨h, hm, e2, e3, hcu, hb1, hn, ha, hB0, hn1, hB1, hln, hffn, hn1u⟩ : _ ∧ _ ∧ _ ∧ _ ∧ _ ∧ _ ∧ _ ∧ _ ∧ _ ∧ _ ∧ _ ∧ _ ∧ _ ∧ _)
    have HN := Lib.hid (⟨hcn, hch⟩ : _ ∧ _)
    have HZ := Lib.hid (⟨hz, hzn, hff, hD⟩ : _ ∧ _ ∧ _ ∧ _)
    clear h h0 hm hcu hb1 ha hB0 hn1 hB1 hln hffn hn1u hU hSC hn e1 e2 e3 hch hcn hz hzn hff hffu hD
    go_enter Try.func15, Try.ntmps15
    go_wp2_with fail
    refine hf.mono ?_
    rintro e w1 ⟨rfl, hC⟩
    obtain ⟨k1, c0, c1, c2, c3⟩ := hcells w1 hC
    have HC := Lib.hid hC
    clear hC hf c0 c1 c2 c3
    go_wp2_with fail
    obtain ⟨h, hm, e2, e3, hcu, hb1, hn, ha, hB0, hn1, hB1, hln, hffn, hn1u⟩ := HS.out
    obtain ⟨bl, hbl⟩ : ∃ bl, bl = w1.heap.size := ⟨_, rfl⟩
    have hblw : w.heap.size ≤ bl := by have := HC.out.size; omega
    have hC1 : Chg (fun _ => False) w (w1.alloc (.cells #[.int .u64 n] 24)) := HC.out.alloc _
    have kb : (w1.alloc (.cells #[.int .u64 n] 24)).heap[bl]? = some (.cells #[.int .u64 n] 24 (0, 0)) := by rw [hbl]; exact heap_alloc_at _ _
    obtain ⟨W1, hW1⟩ : ∃ W1, W1 = w1.alloc (.cells #[.int .u64 n] 24) := ⟨_, rfl⟩
    rw [← hW1] at hC1 kb
    have hbl2 : ¬ Mine g V L bl := fun e => by have := h.at_.mine_lt e; omega
    have hbb : b ≠ bl := fun e => hbl2 (e ▸ .inr (.inl e3))
    have hmLL : m < L.length := by omega
    obtain ⟨p0, p1⟩ := (h.keep hC1).get hds (P := .acc m 1) ⟨hm, by omega⟩ (fun _ _ => e3)
    rw [show s.get (.acc m 1) = B0 by rw [hB0, ha]; rfl] at p0
    simp only [adr] at p0 p1
    have hcut := cut_any ⟨b, m * 4 + 1, none⟩ ⟨bl, 0, none⟩ B0 n W1 p0 (cell_of kb 0 rfl) p1 (frozen_of kb 0) (fun e => by simp at e) hb1 hn
    rw [hn1, hB1] at hcut
    have hSI : SI w g bl V L (sK s m B1 n1 cn) n1 ((W1.drew.setCell ⟨b, m * 4 + 1, none⟩ (.int .u64 B1)).setCell ⟨bl, 0, none⟩ (.int .u64 n1)) := by
      have hp := Stp.put hds (h.keep (hC1.drew)) (P := .acc m 1) ⟨hm, by omega⟩ (fun _ _ => e3) B1
      rw [show s.put B1 (.acc m 1) = sK s m B1 n1 cn by
        show { s with acc := s.acc.set m (Ac.put (s.acc.getD m a0) B1 1) } = _
        unfold sK
        rw [← ha, show slS a.ch n1 cn = a.ch by rw [HN.out.1]; simp [slS, sl]]
        rfl] at hp
      exact SI.step (L' := L) rfl (hC1.drew.mono (fun _ _ h => h.elim)) (fun k hk => .inl hk) hbl2 kb hblw n1 hp
    have HW1 := Lib.hid hW1
    rw [← hbl, ← HW1.out]
    clear hC1 kb hW1 p0 p1 h hm e2 hcu hb1 hn ha hB0 hn1 hB1 hffn hn1u hbl
    refine hcut.mono ?_
    rintro e w2 ⟨rfl, hw2⟩
    rw [← hw2] at hSI
    have hL0 : L.length = s.acc.length := HS.out.1.len
    have ham : s.acc.getD m a0 = a := HS.out.2.2.2.2.2.2.2.1.symm
    obtain ⟨A2, cc2, u3⟩ := SI.cell3 hSI HS.out.2.1 hL0 (by rw [ham, ← HN.out.1]; exact Nat.le_refl _) e3
    rw [ham, ← HN.out.1] at u3
    have HI0 := Lib.hid hSI
    have HE3 := Lib.hid (⟨e3, hL0, ham, hblw, hbl2, hbb⟩ : _ ∧ _ ∧ _ ∧ _ ∧ _ ∧ _)
    have hc1000 := HN.out.2
    clear hSI e3 hL0 ham hblw hbl2 hbb hcut hw2 hln hmLL hcells k1
    go_wp2
    go_loopw [12] (fun i wr => ∃ k : Nat, k ≤ cn ∧ i = .int .i64 ((k : Int) - 1) ∧ Hid (SI w g bl V L (sK s m B1 n1 k) (sl (a.ch.drop k) n1).2 wr)) (fun i _ => (intOf i + 1).toNat)
    case atStart =>
      refine ⟨cn, Nat.le_refl _, by go_num, Lib.hid ?_⟩
      rw [HN.out.1, List.drop_length, ← HN.out.1]
      exact HI0.out
    case round =>
      obtain ⟨k, hk, rfl, HK⟩ := hrel
      cases k with
      | zero =>
        obtain ⟨h, hm, e2, e3, hcu, hb1, hn, ha, hB0, hn1, hB1, hln, hffn, hn1u⟩ := HS.out
        obtain ⟨_, hL0, ham, hblw, hbl2, hbb⟩ := HE3.out
        obtain ⟨hz, hzn, hff, hD⟩ := HZ.out
        obtain ⟨L', hL', hlen, hCw, hMw, hnb, hbox⟩ := HK.out
        rw [List.drop_zero, hffn] at hbox
        have hmL' : m < L'.length := by omega
        obtain ⟨b', c5, A5, cc5, q1, q2, q3, hcells5⟩ := hL'.cells hmL'
        obtain rfl : b = b' := by have := e3.symm.trans q3; simpa using this
        obtain ⟨_, _, _, _, v3⟩ := hcells5 wr (Chg.refl _ wr)
        have hgd := sK_get s m B1 n1 0 hm
        have hxx : (L'.getD m r0).1 = (sK s m B1 n1 0).acc.getD m a0 := by rw [← fst_getD, hL'.acc]
        have hrow := hL'.at_.chs m hmL'
        rw [hxx] at hrow
        rw [hgd, ham] at q2 v3 hrow
        simp only [slS, List.take_zero, List.drop_zero, List.nil_append] at q2 v3 hrow
        rw [sl_len, ← HN.out.1] at q2 v3
        rw [q2] at hrow
        have hdel := delete37_40 (cls40 (sl a.ch n1).1) hrow (fun _ _ h => h) (fun _ h => h.elim) (fun _ _ _ _ _ => trivial) trivial (by rw [sl_len, ← HN.out.1]; exact HN.out.2)
        have HR := Lib.hid (⟨q2, hL', hlen, hCw, hMw, hnb, hbox, hgd⟩ : _ ∧ _ ∧ _ ∧ _ ∧ _ ∧ _ ∧ _ ∧ _)
        clear h hm e2 hcu hb1 hn ha hB0 hn1 hB1 hln hffn hn1u hL0 ham hblw hbl2 hbb hz hzn hff hD hL' hlen hCw hMw hnb hbox q1 q2 q3 hcells5 hgd hxx hrow hk hmL' e3
        go_wp2_with fail
        refine hdel.mono ?_
        rintro e w4 ⟨v', rfl, hO4, _, hC4, hk4⟩
        obtain ⟨A6, n6, c6, rfl⟩ : ∃ A n c, v' = .slice A n c := by obtain ⟨A', c', e, _⟩ := hO4.form; exact ⟨_, _, _, e⟩
        obtain ⟨h, hm, e2, e3, hcu, hb1, hn, ha, hB0, hn1, hB1, hln, hffn, hn1u⟩ := HS.out
        obtain ⟨_, hL0, ham, hblw, hbl2, hbb⟩ := HE3.out
        obtain ⟨hz, hzn, hff, hD⟩ := HZ.out
        obtain ⟨q2, hL', hlen, hCw, hMw, hnb, hbox, hgd⟩ := HR.out
        have hmL' : m < L'.length := by omega
        have hC4' : Chg (fun k => (L'.getD m r0).v.ownBlock = some k) wr w4 := hC4.mono (fun k _ e => by
          rcases e with e | e
          · rw [q2]; exact e
          · exact e.elim)
        have hx3 := hL'.at_.rows.chg hC4' (fun k hk e => (hL'.at_.vs m k hmL' e).2 hk)
        obtain ⟨b', _, cur3, r1, r2, r3, _, _, r6⟩ := hx3.at_ layA r0 (by omega)
        obtain rfl : b = b' := by have := e3.symm.trans r2; simpa using this
        obtain ⟨uu, huu⟩ : ∃ u, u = (L'.getD m r0).v := ⟨_, rfl⟩
        have u3 : w4.cell? ⟨b, m * 4 + 3, none⟩ = some uu := cell_of r3 _ ((r6 m 3 hmL' (by omega)).trans (by rw [huu]; rfl))
        have y3 := frozen_of r3 (m * 4 + 3)
        have hS4 := Stp.setCh hds hL' hmL' e3 hC4' hO4 (fun k hk => .inl (by rw [q2]; rw [hk4] at hk; exact hk))
        rw [hgd, ham] at hS4
        have hCb : Chg (fun k => k = b) w4 (w4.setCell ⟨b, m * 4 + 3, none⟩ (.slice A6 n6 c6)) := Chg.setCell (F := fun k => k = b) (p := ⟨b, m * 4 + 3, none⟩) (Chg.refl _ _) (fun _ => rfl) _
        have hn4 := (hC4'.block bl (heap_lt hbox) (fun e => hnb (.inr (.inr ⟨m, hmL', e⟩)))).trans hbox
        have hn4 := (hCb.block bl (heap_lt hn4) (fun e => hbb e.symm)).trans hn4
        obtain ⟨W4, hW4⟩ : ∃ W4, W4 = w4.setCell ⟨b, m * 4 + 3, none⟩ (.slice A6 n6 c6) := ⟨_, rfl⟩
        rw [← hW4] at hn4 hS4
        have hS4 := hS4.more ((Chg.refl _ W4).drew)
        have hn4 : W4.drew.heap[bl]? = some (.cells #[.int .u64 ff] 24 (0, 0)) := hn4
        obtain ⟨W5, hW5⟩ : ∃ W5, W5 = W4.drew := ⟨_, rfl⟩
        rw [← hW5] at hn4 hS4
        have hSF : { sK s m B1 n1 0 with acc := (sK s m B1 n1 0).acc.set m { free := a.free, bonded := B1, dep := a.dep, ch := (sl a.ch n1).1.filter fun x => !decide (x.1 = 0) } } = { s with acc := s.acc.set m (a.cut n).1 } := by
          unfold sK Ac.cut
          simp only [List.set_set]
          rw [← hB0, hn1, hB1]
        rw [hSF] at hS4
        obtain ⟨L4, hL4, hlen4, _⟩ := id hS4
        obtain ⟨g0, gf0⟩ := hL4.get hds (P := .tre) trivial (fun _ _ => e3)
        have g1 := cell_of hn4 0 rfl
        rw [show S.get { s with acc := s.acc.set m (a.cut n).1 } .tre = s.tre from rfl] at g0
        simp only [adr] at g0 gf0
        have hfin : Hid (Stp 64 34 38 S.hd w (W5.setCell ⟨g, 1, none⟩ (.int .u64 z)) g V L { s with acc := s.acc.set m (a.cut n).1, tre := z }) := Lib.hid (by
          refine Stp.glue hlen hCw hMw (hS4.then (fun L' hL' hlen => ?_))
          exact Stp.put hds hL' (P := .tre) trivial (fun _ _ => e3) z)
        have hfz : Hid ((W5.setCell ⟨g, 1, none⟩ (.int .u64 z)).cell? ⟨bl, 0, none⟩ = some (.int .u64 ff)) := Lib.hid (by
          rw [World.cell?_setCell_other _ _ _ _ (fun e => by have := congrArg Addr.block e; simp at this; exact hbl2 (.inl this.symm))]
          exact g1)
        obtain ⟨t0, ht0⟩ : ∃ t, t = s.tre := ⟨_, rfl⟩
        rw [← ht0] at g0 hz
        have HW4 := Lib.hid (⟨hW4, hW5⟩ : _ ∧ _)
        clear hO4 hC4 hk4 h hm e2 e3 hcu hb1 hn ha hB0 hn1 hB1 hln hffn hn1u hL0 ham hblw hbl2 hbb hff hD q2 hL' hlen hCw hMw hnb hbox hgd hmL' hC4' hx3 r1 r2 r3 r6 huu hS4 hCb hn4 hW4 hW5 hSF hL4 hlen4 HR HS HN HE3 HK hdel ht0 HI0
        go_wp2_with fail
        rw [← HW4.out.1]
        refine J.wp_region_seq (fun W => W.cell? ⟨g, 1, none⟩ = some (.int .u64 t0) ∧ W.cell? ⟨bl, 0, none⟩ = some (.int .u64 ff)) [(0, 0), (1, 0), (2, 0), (3, 0), (4, 0), (5, 0), (6, 0), (7, 0), (8, 0), (9, 0), (10, 1)] (by kernel_rfl) (by kernel_rfl) (by kernel_rfl) (by rw [← HW4.out.2]; exact ⟨g0, g1⟩) ?_
        iterate 10 (apply J.look (by rfl) (by rfl); (focus (intro W hW; obtain ⟨hW0, hW1⟩ := hW; go_simp; exact HasV.val rfl)); simp only [Act.put, List.setIfInBounds_toArray, List.set_cons_zero, List.set_cons_succ])
        rw [← HW4.out.2]
        refine J.final (fun u W => u = undef ∧ W = W5.setCell ⟨g, 1, none⟩ (.int .u64 z)) (by rfl) (by rfl) (by kernel_rfl) ?_ ?_
        · go_simp
          exact J.HasR.skip ⟨rfl, by rw [HZ.out.2.2.2, hz]⟩
        rintro u W ⟨rfl, rfl⟩
        simp only [Act.put, List.setIfInBounds_toArray, List.set_cons_zero, List.set_cons_succ]
        refine J.fin ?_
        have hfz := hfz.out
        go_wp2
        go_ret2
        exact ⟨by rw [← HZ.out.2.2.2]; rfl, hfin.out⟩
      | succ k =>
        obtain ⟨h, hm, e2, e3, hcu, hb1, hn, ha, hB0, hn1, hB1, hln, hffn, hn1u⟩ := HS.out
        obtain ⟨e3, hL0, ham, hblw, hbl2, hbb⟩ := HE3.out
        have hkl : k < a.ch.length := by have := HN.out.1; omega
        obtain ⟨b2, cc3, v3, x0, f0, hb2, hnext⟩ := slash_step HK.out hblw hm hL0 (by rw [ham]; exact hkl) (by rw [ham]) e3
        rw [ham] at v3 x0 hnext
        rw [← HN.out.1] at v3
        have hx : U64 (a.ch.getD k d0).1 := hcu _ (getD_mem hkl)
        have hlf := sl_le (a.ch.drop (k + 1)) n1 hn1u (fun x hx => (hcu x (List.mem_of_mem_drop hx)).1)
        have hlu : U64 (sl (a.ch.drop (k + 1)) n1).2 := by unfold U64 at hn hb1 ⊢; omega
        rw [← slS_left a.ch n1 k hkl] at hnext
        have kb : wr.heap[bl]? = some (.cells #[.int .u64 (sl (a.ch.drop (k + 1)) n1).2] 24 (0, 0)) := by obtain ⟨_, _, _, _, _, _, h6⟩ := HK.out; exact h6
        have hcut := cut_any ⟨b2, k * 2, none⟩ ⟨bl, 0, none⟩ (a.ch.getD k d0).1 (sl (a.ch.drop (k + 1)) n1).2 wr x0 (cell_of kb 0 rfl) f0 (frozen_of kb 0) (fun e => by simp at e) hx hlu
        rw [← slS_left a.ch n1 k hkl] at hcut
        have HX := Lib.hid hnext
        obtain ⟨x, hxe⟩ : ∃ x, x = (a.ch.getD k d0).1 := ⟨_, rfl⟩
        obtain ⟨l1, hl1⟩ : ∃ x, x = (sl (a.ch.drop (k + 1)) n1).2 := ⟨_, rfl⟩
        obtain ⟨l2, hl2⟩ : ∃ x, x = (sl (a.ch.drop k) n1).2 := ⟨_, rfl⟩
        rw [← hxe] at x0 hcut HX
        rw [← hl1] at hcut HX
        rw [← hl2] at hcut HX
        have HQ := Lib.hid (⟨hl2, hb2⟩ : _ ∧ _)
        clear h hm e2 e3 hcu hb1 hn ha hB0 hn1 hB1 hln hffn hn1u hL0 ham hblw hbl2 hbb hkl hnext hx hlf hlu kb hxe hl1 hl2 hb2 f0
        go_wp2_with fail
        refine hcut.mono ?_
        rintro e w3 ⟨rfl, hw3⟩
        rw [← hw3] at HX
        clear hcut hw3
        go_wp2
        go_roundw
        case rel => exact ⟨k, by omega, by go_num, Lib.hid (by rw [← HQ.out.1]; exact HX.out)⟩
        case measure => simp [intOf]
end Go.Proofs.Ytpndkelbchjkiaa
