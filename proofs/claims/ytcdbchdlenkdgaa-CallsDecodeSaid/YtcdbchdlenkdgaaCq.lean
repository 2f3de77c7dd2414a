/- Calls: the reference's Decode. -/
import Derived.Test.YtcdbchdlenkdgaaCy
import Derived.Test.YtcdbchdlenkdgaaRg
set_option linter.unusedVariables false
set_option linter.unusedSimpArgs false
namespace Go.Proofs.Ytcdbchdlenkdgaa
open Go.RowKit Go.Ps

def zero58 : Obj := .cells #[.int .i64 0, .int .i64 0, .int .u64 0, .int .u64 0, .int .u64 0, .slice none 0 0, .slice none 0 0] 58 (0, 0)
def obj58 (k who a b c : Int) (VL VB : Value) : Obj := .cells #[.int .i64 k, .int .i64 who, .int .u64 a, .int .u64 b, .int .u64 c, VL, VB] 58 (0, 0)
/-- What the reference's Decode has in memory: the result's block, and all is new. -/
structure Zq (w : World) (gz : Nat) (W : World) : Prop where
  zero : W.heap[gz]? = some zero58
  chg : Chg (fun _ => False) w W
  ge : w.heap.size ≤ gz
theorem Zq.grow {w W W' : World} {gz : Nat} (h : Zq w gz W) (hc : Chg (fun _ => False) W W') : Zq w gz W' := ⟨chg_heap hc h.zero, chg_trans h.chg hc, h.ge⟩
theorem Zq.bad {w W : World} {gz : Nat} (h : Zq w gz W) {r : C7 × Int} (hr : r = (c7zero, 2)) : ∀ W', Chg (fun k => k = gz) W W' → DecPost r w (.returned (.tuple #[cv c7zero none 0 none 0, .int .i64 2])) W' := fun W' hW' =>
  ⟨none, 0, none, 0, by rw [hr], by rw [hr]; exact fun h => absurd rfl h, by rw [hr]; exact fun h => absurd rfl h, by rw [hr]; exact Nat.le_refl _, by rw [hr]; exact Nat.le_refl _, h.chg.trans hW' (fun k hk e => by have := h.ge; omega)⟩
theorem Zq.good {w W : World} {gz : Nat} (h : Zq w gz W) {x : C7} {r : C7 × Int} (hr : r = (x, 0)) {A B : Option Addr} {cl d : Nat} (hA : ReadsI W .u64 A x.list) (hB : ReadsI W .u8 B x.bytes) (hcl : x.list.length ≤ cl) (hd : x.bytes.length ≤ d) (ha : ∀ p, A = some p → p.block ≠ gz) (hb : ∀ p, B = some p → p.block ≠ gz) :
    ∀ W', Chg (fun k => k = gz) W W' → DecPost r w (.returned (.tuple #[cv x A cl B d, .int .i64 0])) W' := fun W' hW' =>
  ⟨A, cl, B, d, by rw [hr], by rw [hr]; exact hA.chg hW' (fun p hp e => ha p hp e), by rw [hr]; exact hB.chg hW' (fun p hp e => hb p hp e), by rw [hr]; exact hcl, by rw [hr]; exact hd, h.chg.trans hW' (fun k hk e => by have := h.ge; omega)⟩
theorem wrap64_id {n : Int} (h : -9223372036854775808 ≤ n ∧ n ≤ 9223372036854775807) : IntKind.i64.wrap n = n := by simp [IntKind.wrap, IntKind.bits, IntKind.signed]; omega
theorem mem_nil {P : Program} {ops : Array Oper} {md : Region.Mode} {ks : List Nat} {ww : Nat → World} {Q : Act → Prop} {k : Nat} {a : Act} (h : Q a) : G.wpDet P ops md (G.Stage ks ww) Q k [] a := h
theorem not_u8 {w : World} {gc : Nat} {k u a b c : Int} {X Y : Option Addr} {n1 n2 m1 m2 : Nat} (hc : w.heap[gc]? = some (.cells #[.int .i64 k, .int .i64 u, .int .u64 a, .int .u64 b, .int .u64 c, .slice X n1 m1, .slice Y n2 m2] 58)) {A : Option Addr} {l : List Int} (hr : ReadsI w .u8 A l) (hne : l ≠ []) : ∀ p, A = some p → p.block ≠ gc := by
  obtain ⟨g, o, rfl, hx⟩ := hr.plain hne
  intro p hp e
  cases hp
  simp only at e
  subst e
  have h0 := hx 0 (List.length_pos_iff.2 hne)
  rw [Nat.add_zero] at h0
  obtain ⟨c0, c1, c2, c3, c4, c5, c6⟩ := read7 hc
  have ho : o = 0 ∨ o = 1 ∨ o = 2 ∨ o = 3 ∨ o = 4 ∨ o = 5 ∨ o = 6 ∨ 7 ≤ o := by omega
  rcases ho with rfl | rfl | rfl | rfl | rfl | rfl | rfl | ho
  · rw [c0] at h0; cases h0
  · rw [c1] at h0; cases h0
  · rw [c2] at h0; cases h0
  · rw [c3] at h0; cases h0
  · rw [c4] at h0; cases h0
  · rw [c5] at h0; cases h0
  · rw [c6] at h0; cases h0
  · unfold World.cell? at h0
    simp [hc, Array.getElem?_eq_none (show (#[Value.int .i64 k, .int .i64 u, .int .u64 a, .int .u64 b, .int .u64 c, .slice X n1 m1, .slice Y n2 m2] : Array Value).size ≤ o from ho)] at h0
theorem hasV_append {S : World → Prop} {o : Oper} {a : Act} {w : World} (s x : Operand) (t : TypeId) (ho : o.op = .call { callee := .builtin .append, args := #[s, x], argTypes := #[t, t] }) (va vb v' : Value) (w' : World) (hs : a.eval s = va) (hx : a.eval x = vb)
    (hr : (Builtin.append_ #[t, t] o.type #[va, vb]).run Try.prog w = .ok v' w') (h : S w') : HasV Try.prog S v' ((execOp a.eval o).run Try.prog w) := by
  unfold execOp
  simp only [ho, resolve, invoke, builtin, Sem.run_bind, Sem.run_pure, Result.andThen_ok, List.map_toArray, List.map_cons, List.map_nil, hs, hx, hr]
  exact HasV.val h
theorem hasV_slice {S : World → Prop} {o : Oper} {a : Act} {w : World} (t : TypeId) (x : Operand) (lo hi : Option Operand) (ho : o.op = .slice t x lo hi none) (vx v' : Value) (vlo vhi : Option Value) (hx : a.eval x = vx) (hlo : lo.map a.eval = vlo) (hhi : hi.map a.eval = vhi)
    (hr : (Instr.sliceAt t vx vlo vhi none).run Try.prog w = .ok v' w) (h : S w) : HasV Try.prog S v' ((execOp a.eval o).run Try.prog w) := by
  unfold execOp
  subst hx hlo hhi
  simp only [ho, Sem.run_bind, Sem.run_pure, Result.andThen_ok, Option.map_none, hr]
  exact HasV.val h
theorem pad3 (l : List Int) (h : l.length ≤ 3) : (l ++ [0, 0, 0]).getD 0 0 = l.getD 0 0 ∧ (l ++ [0, 0, 0]).getD 1 0 = l.getD 1 0 ∧ (l ++ [0, 0, 0]).getD 2 0 = l.getD 2 0 := by
  match l, h with
  | [], _ => exact ⟨rfl, rfl, rfl⟩
  | [x], _ => exact ⟨rfl, rfl, rfl⟩
  | [x, y], _ => exact ⟨rfl, rfl, rfl⟩
  | [x, y, z], _ => exact ⟨rfl, rfl, rfl⟩
  | x :: y :: z :: t :: r, h => simp at h
set_option maxRecDepth 100000 in
set_option maxHeartbeats 4000000 in
theorem rdecode_any (w : World) (A : Option Addr) (c : Nat) (l : List Int) (hr : ReadsI w .u8 A l) (hb : Bytes l) (hl : l.length ≤ 20000000000) (hcap : l.length ≤ c) : Calls Try.prog 44 #[.slice A l.length c] w (DecPost (rdec l) w) := by
  have h58 := taken_any (w.alloc (.cells #[.int .i64 0, .int .i64 0, .int .u64 0, .int .u64 0, .int .u64 0, .slice none 0 0, .slice none 0 0] 58)) A c l 2 (hr.alloc _) hb hl hcap (by omega)
  have hz0 : Zq w w.heap.size (w.alloc (.cells #[.int .i64 0, .int .i64 0, .int .u64 0, .int .u64 0, .int .u64 0, .slice none 0 0, .slice none 0 0] 58)) := ⟨heap_alloc_at _ _, (Chg.refl _ _).alloc _, Nat.le_refl _⟩
  obtain ⟨R, hR⟩ : ∃ R, R = rdec l := ⟨_, rfl⟩
  rw [← hR]
  obtain ⟨L, hL⟩ : ∃ L, L = l.length := ⟨_, rfl⟩
  have hR0 := hR
  unfold rdec at hR
  have hq1 := rnums_length mostU 2 (l, false)
  have hq2 := fun h => rnums_ok mostU 2 l hb h
  obtain ⟨q, hq⟩ : ∃ q, q = rnums mostU 2 (l, false) := ⟨_, rfl⟩
  simp only [← hq] at hR hq1 hq2 h58
  rw [← hL] at h58 hl hcap ⊢
  obtain ⟨q1, q2, q3⟩ := q
  simp only at hR hq1 hq2
  obtain ⟨k, u, rfl⟩ : ∃ k u, q1 = [k, u] := by
    match q1, hq1 with
    | [k, u], _ => exact ⟨k, u, rfl⟩
  simp only [List.getD_cons_zero, List.getD_cons_succ] at hR
  unfold TNPost at h58
  have HZ0 := Lib.hid hz0
  have HL := Lib.hid hL
  have HRR := Lib.hid hr
  have HB := Lib.hid hb
  have H58 := Lib.hid h58
  clear hz0 hL hr hb h58 hq hR0
  cases q3 with
  | true =>
    rw [if_pos (by simp)] at hR
    have HR := Lib.hid hR
    clear hR hq1 hq2
    go_enter Try.func44, Try.ntmps44
    go_wp2_with fail
    refine H58.out.mono ?_
    rintro e1 w1 (⟨_, rfl, hC1⟩ | ⟨h, _⟩)
    · have hz := HZ0.out.grow hC1
      obtain ⟨gz, hgz⟩ : ∃ g, g = w.heap.size := ⟨_, rfl⟩
      rw [← hgz] at hz ⊢
      have HZ := Lib.hid hz
      clear hgz hC1 hz
      obtain ⟨z0, z1, z2, z3, z4, z5, z6⟩ := read7 HZ.out.zero
      have y0 := frozen_of HZ.out.zero 0
      have y1 := frozen_of HZ.out.zero 1
      have y2 := frozen_of HZ.out.zero 2
      have y3 := frozen_of HZ.out.zero 3
      have y4 := frozen_of HZ.out.zero 4
      have y5 := frozen_of HZ.out.zero 5
      have y6 := frozen_of HZ.out.zero 6
      have FZ := Lib.hid (HZ.out.bad (HR.out))
      go_wp2
      exact bodyPost_ret (v := .tuple #[cv c7zero none 0 none 0, .int .i64 2]) (by simp [results, Try.results44, go_sem, cv, c7zero, z0, z1, z2, z3, z4, z5, z6]) rfl (FZ.out _ (by repeat (first | (with_reducible exact Chg.refl _ _) | (with_reducible refine chg_set_g ?_ _ _))))
    · simp at h
  | false =>
    obtain ⟨g1, g2, g3⟩ := hq2 rfl
    have hk0 := (g2 k (by simp)).1
    have hk9 := (g2 k (by simp)).2
    have hu0 := (g2 u (by simp)).1
    have hq2l : q2.length ≤ L := by rw [HL.out, g1, List.length_append]; omega
    have HG3 := Lib.hid g3
    clear g1 g2 g3 hq1 hq2
    by_cases k16 : 16 < k
    · rw [if_pos (by omega)] at hR
      have HR := Lib.hid hR
      clear hR
      go_enter Try.func44, Try.ntmps44
      go_wp2_with fail
      refine H58.out.mono ?_
      rintro e1 w1 (⟨h, _⟩ | ⟨_, v1, A1, n1, c1, rfl, hn1, hnc1, hr1, hN1⟩)
      · simp at h
      obtain ⟨A2, n2, d2, rfl, hn2, hr2⟩ := New.form3 hN1
      obtain rfl : n2 = 2 := hn2
      obtain ⟨ga, oa, rfl, hx⟩ := hr2.plain (by simp)
      have p0 := hx 0 (by simp)
      have p1 := hx 1 (by simp)
      simp only [List.getD_cons_zero, List.getD_cons_succ, Nat.add_zero] at p0 p1
      have hz := HZ0.out.grow hN1.2.1
      obtain ⟨gz, hgz⟩ : ∃ g, g = w.heap.size := ⟨_, rfl⟩
      rw [← hgz] at hz ⊢
      have HZ := Lib.hid hz
      have HN1 := Lib.hid hN1
      have HQ := Lib.hid (And.intro hn1 (And.intro hnc1 hr1))
      clear hgz hz hn1 hnc1 hr1 hN1 hr2 hx
      simp only []
      obtain ⟨z0, z1, z2, z3, z4, z5, z6⟩ := read7 HZ.out.zero
      have y0 := frozen_of HZ.out.zero 0
      have y1 := frozen_of HZ.out.zero 1
      have y2 := frozen_of HZ.out.zero 2
      have y3 := frozen_of HZ.out.zero 3
      have y4 := frozen_of HZ.out.zero 4
      have y5 := frozen_of HZ.out.zero 5
      have y6 := frozen_of HZ.out.zero 6
      have FZ := Lib.hid (HZ.out.bad (HR.out))
      go_wp2
      exact bodyPost_ret (v := .tuple #[cv c7zero none 0 none 0, .int .i64 2]) (by simp [results, Try.results44, go_sem, cv, c7zero, z0, z1, z2, z3, z4, z5, z6]) rfl (FZ.out _ (by repeat (first | (with_reducible exact Chg.refl _ _) | (with_reducible refine chg_set_g ?_ _ _))))
    by_cases u31 : 2147483647 < u
    · rw [if_pos (by omega)] at hR
      have HR := Lib.hid hR
      clear hR
      go_enter Try.func44, Try.ntmps44
      go_wp2_with fail
      refine H58.out.mono ?_
      rintro e1 w1 (⟨h, _⟩ | ⟨_, v1, A1, n1, c1, rfl, hn1, hnc1, hr1, hN1⟩)
      · simp at h
      obtain ⟨A2, n2, d2, rfl, hn2, hr2⟩ := New.form3 hN1
      obtain rfl : n2 = 2 := hn2
      obtain ⟨ga, oa, rfl, hx⟩ := hr2.plain (by simp)
      have p0 := hx 0 (by simp)
      have p1 := hx 1 (by simp)
      simp only [List.getD_cons_zero, List.getD_cons_succ, Nat.add_zero] at p0 p1
      have hz := HZ0.out.grow hN1.2.1
      obtain ⟨gz, hgz⟩ : ∃ g, g = w.heap.size := ⟨_, rfl⟩
      rw [← hgz] at hz ⊢
      have HZ := Lib.hid hz
      have HN1 := Lib.hid hN1
      have HQ := Lib.hid (And.intro hn1 (And.intro hnc1 hr1))
      clear hgz hz hn1 hnc1 hr1 hN1 hr2 hx
      simp only []
      obtain ⟨z0, z1, z2, z3, z4, z5, z6⟩ := read7 HZ.out.zero
      have y0 := frozen_of HZ.out.zero 0
      have y1 := frozen_of HZ.out.zero 1
      have y2 := frozen_of HZ.out.zero 2
      have y3 := frozen_of HZ.out.zero 3
      have y4 := frozen_of HZ.out.zero 4
      have y5 := frozen_of HZ.out.zero 5
      have y6 := frozen_of HZ.out.zero 6
      have FZ := Lib.hid (HZ.out.bad (HR.out))
      go_wp2
      exact bodyPost_ret (v := .tuple #[cv c7zero none 0 none 0, .int .i64 2]) (by simp [results, Try.results44, go_sem, cv, c7zero, z0, z1, z2, z3, z4, z5, z6]) rfl (FZ.out _ (by repeat (first | (with_reducible exact Chg.refl _ _) | (with_reducible refine chg_set_g ?_ _ _))))
    have h55 := fun W => rnumbers_any k W
    unfold numsR at h55
    by_cases k1 : k < 1
    · rw [if_pos (by omega)] at hR
      rw [if_neg (by omega)] at h55
      have HR := Lib.hid hR
      clear hR
      go_enter Try.func44, Try.ntmps44
      go_wp2_with fail
      refine H58.out.mono ?_
      rintro e1 w1 (⟨h, _⟩ | ⟨_, v1, A1, n1, c1, rfl, hn1, hnc1, hr1, hN1⟩)
      · simp at h
      obtain ⟨A2, n2, d2, rfl, hn2, hr2⟩ := New.form3 hN1
      obtain rfl : n2 = 2 := hn2
      obtain ⟨ga, oa, rfl, hx⟩ := hr2.plain (by simp)
      have p0 := hx 0 (by simp)
      have p1 := hx 1 (by simp)
      simp only [List.getD_cons_zero, List.getD_cons_succ, Nat.add_zero] at p0 p1
      have hz := HZ0.out.grow hN1.2.1
      obtain ⟨gz, hgz⟩ : ∃ g, g = w.heap.size := ⟨_, rfl⟩
      rw [← hgz] at hz ⊢
      have HZ := Lib.hid hz
      have HN1 := Lib.hid hN1
      have HQ := Lib.hid (And.intro hn1 (And.intro hnc1 hr1))
      clear hgz hz hn1 hnc1 hr1 hN1 hr2 hx
      simp only []
      obtain ⟨z0, z1, z2, z3, z4, z5, z6⟩ := read7 HZ.out.zero
      have y0 := frozen_of HZ.out.zero 0
      have y1 := frozen_of HZ.out.zero 1
      have y2 := frozen_of HZ.out.zero 2
      have y3 := frozen_of HZ.out.zero 3
      have y4 := frozen_of HZ.out.zero 4
      have y5 := frozen_of HZ.out.zero 5
      have y6 := frozen_of HZ.out.zero 6
      have FZ := Lib.hid (HZ.out.bad (HR.out))
      go_wp2_with fail
      refine (h55 _).mono ?_
      rintro e2 w2 ⟨rfl, rfl⟩
      go_wp2
      exact bodyPost_ret (v := .tuple #[cv c7zero none 0 none 0, .int .i64 2]) (by simp [results, Try.results44, go_sem, cv, c7zero, z0, z1, z2, z3, z4, z5, z6]) rfl (FZ.out _ (by repeat (first | (with_reducible exact Chg.refl _ _) | (with_reducible refine chg_set_g ?_ _ _))))
    rw [if_neg (by simp; omega)] at hR
    rw [if_pos (by omega)] at h55
    obtain ⟨m, hm⟩ : ∃ m, m = nums k := ⟨_, rfl⟩
    have hm3 := nums_le k
    have hpl := rnums_length mostU (nums k) (q2, false)
    have hpo := fun h => rnums_ok mostU (nums k) q2 HG3.out h
    obtain ⟨p, hp⟩ : ∃ p, p = rnums mostU (nums k) (q2, false) := ⟨_, rfl⟩
    rw [← hp] at hR hpl hpo
    rw [← hm] at h55 hm3 hpl
    have HM := Lib.hid hm
    have HP := Lib.hid hp
    have HPL := Lib.hid hpl
    have HPO := Lib.hid hpo
    have HR := Lib.hid hR
    clear hm hp hpl hpo hR
    go_enter Try.func44, Try.ntmps44
    go_wp2_with fail
    refine H58.out.mono ?_
    rintro e1 w1 (⟨h, _⟩ | ⟨_, v1, A1, n1, c1, rfl, hn1, hnc1, hr1, hN1⟩)
    · simp at h
    obtain ⟨A2, n2, d2, rfl, hn2, hr2⟩ := New.form3 hN1
    obtain rfl : n2 = 2 := hn2
    obtain ⟨ga, oa, rfl, hx⟩ := hr2.plain (by simp)
    have p0 := hx 0 (by simp)
    have p1 := hx 1 (by simp)
    simp only [List.getD_cons_zero, List.getD_cons_succ, Nat.add_zero] at p0 p1
    have hz := HZ0.out.grow hN1.2.1
    obtain ⟨gz, hgz⟩ : ∃ g, g = w.heap.size := ⟨_, rfl⟩
    rw [← hgz] at hz ⊢
    have HZ := Lib.hid hz
    have HN1 := Lib.hid hN1
    have HQ := Lib.hid (And.intro hn1 (And.intro hnc1 hr1))
    clear hgz hz hn1 hnc1 hr1 hN1 hr2 hx
    simp only []
    have h58b : ∀ W, Chg (fun _ => False) w1 W → Calls Try.prog 58 #[.slice A1 n1 c1, .int .i64 m] W (TNPost p W) := fun W hW => by
      have h := taken_any W A1 c1 q2 m (HQ.out.2.2.chg (chg_trans HN1.out.2.1 hW) (fun _ _ => id)) HG3.out (by omega) (by have := HQ.out; omega) (by omega)
      rw [← HQ.out.1, HM.out, ← HP.out] at h
      rw [HM.out]
      exact h
    have H58B := Lib.hid h58b
    clear h58b
    go_wp2_with fail
    refine (h55 _).mono ?_
    rintro e2 w2 ⟨rfl, rfl⟩
    go_wp2_with fail
    have hwk : IntKind.i64.wrap k = k := wrap64_id (by omega)
    have hwu : IntKind.i64.wrap u = u := wrap64_id (by omega)
    obtain ⟨ww, h0, h1, h2⟩ : ∃ ww : Nat → World, ww 0 = w2.drew ∧ ww 1 = (w2.alloc (.cells #[.int .i64 0, .int .i64 0, .int .u64 0, .int .u64 0, .int .u64 0, .slice none 0 0, .slice none 0 0] 58)).drew ∧ ∀ j, ww (j + 2) = (w2.alloc (.cells #[.int .i64 k, .int .i64 u, .int .u64 0, .int .u64 0, .int .u64 0, .slice none 0 0, .slice none 0 0] 58)).drew := ⟨fun j => match j with | 0 => _ | 1 => _ | j + 2 => _, rfl, rfl, fun _ => rfl⟩
    have hcw : ∀ j, Chg (fun _ => False) w2 (ww j) := fun j => by
      rcases j with _ | _ | j
      · rw [h0]; exact (Chg.refl _ _).drew
      · rw [h1]; exact ((Chg.refl _ _).alloc _).drew
      · rw [h2]; exact ((Chg.refl _ _).alloc _).drew
    have hp0 := fun j => chg_cell (hcw j) p0 id
    have hp1 := fun j => chg_cell (hcw j) p1 id
    refine G.wp_region_mem [9, 10] ww (by kernel_rfl) (by kernel_rfl) (by kernel_rfl) h0 ?_
    have H0 := Lib.hid h0
    have H1 := Lib.hid h1
    have H2 := Lib.hid h2
    clear h0 h1 h2 hcw
    iterate 9 (apply G.mem_step (by rfl) (by rfl); (focus (intro j hj; have q0 := hp0 j; have q1 := hp1 j; go_simp; exact HasV.val rfl)); simp only [Act.put, List.setIfInBounds_toArray, List.set_cons_zero, List.set_cons_succ])
    apply G.mem_do 0 (by rfl) (by rfl) (by rfl) (.inl rfl) (by rfl)
    · rw [H0.out]
      go_simp
      exact HasV.val H1.out.symm
    simp only [Act.put, List.setIfInBounds_toArray, List.set_cons_zero, List.set_cons_succ]
    apply G.mem_do 1 (by rfl) (by rfl) (by rfl) (.inr (by first | kernel_rfl | decide)) (by rfl)
    · rw [H1.out]
      go_simp
      exact HasV.skip (H2.out 0).symm
    simp only [Act.put, List.setIfInBounds_toArray, List.set_cons_zero, List.set_cons_succ]
    refine mem_nil ?_
    show Exit.then _ _ _ _ (ww 2)
    rw [H2.out 0]
    obtain ⟨gc, hgc⟩ : ∃ g, g = w2.heap.size := ⟨_, rfl⟩
    rw [← hgc]
    obtain ⟨w3, hw3⟩ : ∃ w3, w3 = (w2.alloc (.cells #[.int .i64 k, .int .i64 u, .int .u64 0, .int .u64 0, .int .u64 0, .slice none 0 0, .slice none 0 0] 58)).drew := ⟨_, rfl⟩
    rw [← hw3]
    have hC3 : Chg (fun _ => False) w2 w3 := by rw [hw3]; exact ((Chg.refl _ _).alloc _).drew
    have hcell : w3.heap[gc]? = some (.cells #[.int .i64 k, .int .i64 u, .int .u64 0, .int .u64 0, .int .u64 0, .slice none 0 0, .slice none 0 0] 58) := by rw [hw3, hgc]; exact heap_alloc_at _ _
    have hlt : gz < gc := by rw [hgc]; exact heap_lt HZ.out.zero
    have hlt3 : gc < w3.heap.size := heap_lt hcell
    have HC3 := Lib.hid hC3
    have HZ3 := Lib.hid (HZ.out.grow hC3)
    have h58 := H58B.out w3 hC3
    have H58C := Lib.hid h58
    have HCELL := Lib.hid hcell
    have HLT := Lib.hid (And.intro hlt hlt3)
    obtain ⟨c0, c1', c2, c3, c4, c5, c6⟩ := read7 hcell
    have h55' := h55 w3
    clear h58 h55 hC3 hcell hlt hlt3 hw3 hgc H0 H1 H2 H58B hp0 hp1 p0 p1 hwk hwu HZ HN1
    go_wp2_with fail
    refine h55'.mono ?_
    rintro e4 w4 ⟨rfl, hw4⟩
    obtain rfl : w3 = w4 := hw4.symm
    clear h55'
    go_wp2_with fail
    refine H58C.out.mono ?_
    clear H58C
    rintro e5 w5 (⟨hpb, rfl, hC5⟩ | ⟨hpb, v5, A5, n5, c5', rfl, hn5, hnc5, hr5, hN5⟩)
    · have hz := HZ3.out.grow hC5
      have HZ := Lib.hid hz
      clear c0 c1' c2 c3 c4 c5 c6
      have HRZ := Lib.hid (show R = (c7zero, 2) by have := HR.out; rw [if_pos hpb] at this; exact this)
      clear hz hC5 hpb
      simp only []
      obtain ⟨z0, z1, z2, z3, z4, z5, z6⟩ := read7 HZ.out.zero
      have y0 := frozen_of HZ.out.zero 0
      have y1 := frozen_of HZ.out.zero 1
      have y2 := frozen_of HZ.out.zero 2
      have y3 := frozen_of HZ.out.zero 3
      have y4 := frozen_of HZ.out.zero 4
      have y5 := frozen_of HZ.out.zero 5
      have y6 := frozen_of HZ.out.zero 6
      go_wp2_with fail
      have FZ := Lib.hid (HZ.out.bad (HRZ.out))
      go_wp2
      exact bodyPost_ret (v := .tuple #[cv c7zero none 0 none 0, .int .i64 2]) (by simp [results, Try.results44, go_sem, cv, c7zero, z0, z1, z2, z3, z4, z5, z6]) rfl (FZ.out _ (by repeat (first | (with_reducible exact Chg.refl _ _) | (with_reducible refine chg_set_g ?_ _ _))))
    have hRp := HR.out
    rw [if_neg (by rw [hpb]; simp)] at hRp
    have hpm : p.1.length = m := HPL.out
    obtain ⟨A6, n6, d6, rfl, hn6, hr6⟩ := New.form3 hN5
    obtain ⟨A7, d7, w7, hap, hN7⟩ := New.app (P := Try.prog) (t := 29) (cB := 3) (B := some ⟨w5.heap.size, 0, none⟩) (x := [0, 0, 0]) (hN5.chg ((Chg.refl _ _).alloc (.cells #[.int .u64 0, .int .u64 0, .int .u64 0] 24))) Try.underlying29 info24 hn6.symm (ReadsI.of_block (t := 24) (fr := (0, 0)) (heap_alloc_at _ _)) (by simp; omega) (by omega)
    simp only [List.length_cons, List.length_nil, Nat.zero_add] at hap hN7
    obtain ⟨g7, d7', cur, hv7, hob, hgh, hx7⟩ := hN7.1.at_ (by simp)
    obtain rfl : A7 = some ⟨g7, 0, none⟩ := (Value.slice.inj hv7).1
    have hg7 : w3.heap.size ≤ g7 := hN7.2.2 g7 rfl
    have pd := pad3 p.1 (by omega)
    have r0 := cell_of hgh 0 (hx7 0 (by simp))
    have r1 := cell_of hgh 1 (hx7 1 (by simp))
    have r2 := cell_of hgh 2 (hx7 2 (by simp))
    rw [pd.1] at r0
    rw [pd.2.1] at r1
    rw [pd.2.2] at r2
    generalize p.1.getD 0 0 = a at *
    generalize p.1.getD 1 0 = b at *
    generalize p.1.getD 2 0 = cc at *
    have hz7 := HZ3.out.grow hN7.2.1
    have hc7 := chg_heap hN7.2.1 HCELL.out
    have hlt := HLT.out
    have hne : ¬ g7 = gc := by omega
    have hne2 : ¬ gz = gc := by omega
    have HNE := Lib.hid (And.intro hne hne2)
    have HN7 := Lib.hid hN7
    have HZ7 := Lib.hid hz7
    have HC7 := Lib.hid hc7
    have HQ5 := Lib.hid (And.intro hn5 (And.intro hnc5 hr5))
    have HRP := Lib.hid hRp
    clear hN5 hn6 hr6 hN7 hz7 hc7 hx7 hv7 hob hgh hg7 pd hpm hlt hne hne2 hn5 hnc5 hr5 hRp c0 c1' c2 c3 c4 c5 c6 HR
    simp only []
    go_wp2_with (at_builtin; refine wpList_append_run rfl (.tmp 64) (.tmp 65) 29 rfl _ _ _ _ rfl rfl hap ?_)
    obtain ⟨ww, h0, h1, h2, h3⟩ : ∃ ww : Nat → World, ww 0 = w7.drew ∧ ww 1 = w7.drew.setCell ⟨gc, 2, none⟩ (.int .u64 a) ∧ ww 2 = (w7.drew.setCell ⟨gc, 2, none⟩ (.int .u64 a)).setCell ⟨gc, 3, none⟩ (.int .u64 b) ∧ ∀ j, ww (j + 3) = ((w7.drew.setCell ⟨gc, 2, none⟩ (.int .u64 a)).setCell ⟨gc, 3, none⟩ (.int .u64 b)).setCell ⟨gc, 4, none⟩ (.int .u64 cc) := ⟨fun j => match j with | 0 => _ | 1 => _ | 2 => _ | j + 3 => _, rfl, rfl, rfl, fun _ => rfl⟩
    have hcw : ∀ j, Chg (fun i => i = gc) w7 (ww j) := fun j => by
      rcases j with _ | _ | _ | j
      · rw [h0]; exact (Chg.refl _ _).drew
      · rw [h1]; exact chg_set_g ((Chg.refl _ _).drew) _ _
      · rw [h2]; exact chg_set_g (chg_set_g ((Chg.refl _ _).drew) _ _) _ _
      · rw [h3]; exact chg_set_g (chg_set_g (chg_set_g ((Chg.refl _ _).drew) _ _) _ _) _ _
    have k0 : (ww 0).heap[gc]? = some (.cells #[.int .i64 k, .int .i64 u, .int .u64 0, .int .u64 0, .int .u64 0, .slice none 0 0, .slice none 0 0] 58) := by rw [h0]; exact HC7.out
    have k1 : (ww 1).heap[gc]? = some (.cells #[.int .i64 k, .int .i64 u, .int .u64 a, .int .u64 0, .int .u64 0, .slice none 0 0, .slice none 0 0] 58) := by rw [h1, ← h0]; exact heap_setCell k0 2 _
    have k2 : (ww 2).heap[gc]? = some (.cells #[.int .i64 k, .int .i64 u, .int .u64 a, .int .u64 b, .int .u64 0, .slice none 0 0, .slice none 0 0] 58) := by rw [h2, ← h1]; exact heap_setCell k1 3 _
    have k3 : (ww 3).heap[gc]? = some (.cells #[.int .i64 k, .int .i64 u, .int .u64 a, .int .u64 b, .int .u64 cc, .slice none 0 0, .slice none 0 0] 58) := by rw [h3 0, ← h2]; exact heap_setCell k2 4 _
    have hp0 := fun j => chg_cell (hcw j) r0 HNE.out.1
    have hp1 := fun j => chg_cell (hcw j) r1 HNE.out.1
    have hp2 := fun j => chg_cell (hcw j) r2 HNE.out.1
    have b0 : (0 : Int) < (n6 : Int) + 3 := by omega
    have b1 : (1 : Int) < (n6 : Int) + 3 := by omega
    have b2 : (2 : Int) < (n6 : Int) + 3 := by omega
    refine G.wp_region_mem [10, 12, 14] ww (by kernel_rfl) (by kernel_rfl) (by kernel_rfl) h0 ?_
    have H0 := Lib.hid h0
    have H1 := Lib.hid (show ww 1 = (ww 0).setCell ⟨gc, 2, none⟩ (.int .u64 a) by rw [h1, h0])
    have H2 := Lib.hid (show ww 2 = (ww 1).setCell ⟨gc, 3, none⟩ (.int .u64 b) by rw [h2, h1])
    have H3 := Lib.hid (show ww 3 = (ww 2).setCell ⟨gc, 4, none⟩ (.int .u64 cc) by rw [h3 0, h2])
    have HK := Lib.hid (And.intro k0 (And.intro k1 (And.intro k2 k3)))
    have HCW := Lib.hid hcw
    clear h0 h1 h2 h3 hcw k0 k1 k2 k3 r0 r1 r2
    iterate 10 (apply G.mem_step (by rfl) (by rfl); (focus (intro j hj; have q0 := hp0 j; have q1 := hp1 j; have q2 := hp2 j; go_simp; exact HasV.val rfl)); simp only [Act.put, List.setIfInBounds_toArray, List.set_cons_zero, List.set_cons_succ])
    apply G.mem_do 0 (by rfl) (by rfl) (by rfl) (.inl rfl) (by rfl)
    · obtain ⟨x0, x1, x2, x3, x4, x5, x6⟩ := read7 HK.out.1
      have f := frozen_of HK.out.1 2
      go_simp
      exact HasV.skip H1.out.symm
    simp only [Act.put, List.setIfInBounds_toArray, List.set_cons_zero, List.set_cons_succ]
    apply G.mem_step (by rfl) (by rfl); (focus (intro j hj; go_simp; exact HasV.val rfl))
    simp only [Act.put, List.setIfInBounds_toArray, List.set_cons_zero, List.set_cons_succ]
    apply G.mem_do 1 (by rfl) (by rfl) (by rfl) (.inr (by first | kernel_rfl | decide)) (by rfl)
    · obtain ⟨x0, x1, x2, x3, x4, x5, x6⟩ := read7 HK.out.2.1
      have f := frozen_of HK.out.2.1 3
      go_simp
      exact HasV.skip H2.out.symm
    simp only [Act.put, List.setIfInBounds_toArray, List.set_cons_zero, List.set_cons_succ]
    apply G.mem_step (by rfl) (by rfl); (focus (intro j hj; go_simp; exact HasV.val rfl))
    simp only [Act.put, List.setIfInBounds_toArray, List.set_cons_zero, List.set_cons_succ]
    apply G.mem_do 2 (by rfl) (by rfl) (by rfl) (.inr (by first | kernel_rfl | decide)) (by rfl)
    · obtain ⟨x0, x1, x2, x3, x4, x5, x6⟩ := read7 HK.out.2.2.1
      have f := frozen_of HK.out.2.2.1 4
      go_simp
      exact HasV.skip H3.out.symm
    simp only [Act.put, List.setIfInBounds_toArray, List.set_cons_zero, List.set_cons_succ]
    refine mem_nil ?_
    show Exit.then _ _ _ _ (ww 3)
    have hcell := HK.out.2.2.2
    have hchg := HCW.out 3
    generalize ww 3 = w8 at hcell hchg ⊢
    have hbr := ((HPO.out hpb).2.2)
    have hqp := (HPO.out hpb).1
    have hn5L : n5 ≤ L := by rw [hqp, List.length_append] at hq2l; have := HQ5.out.1; omega
    have hr8 : ReadsI w8 .u8 A5 p.2.1 := by
      by_cases h : p.2.1 = []
      · intro h2; exact absurd h h2
      · have h7 := HQ5.out.2.2.chg HN7.out.2.1 (fun _ _ => id)
        exact h7.chg hchg (fun x hx e => not_u8 HC7.out h7 h x hx e)
    have hz8 : Zq w gz w8 := ⟨chg_keep hchg HZ7.out.zero HNE.out.2, HZ7.out.chg.trans hchg (fun i hi e => by have := HZ7.out.ge; have := HLT.out.1; omega), HZ7.out.ge⟩
    have HR8 := Lib.hid hr8
    have HZ8 := Lib.hid hz8
    have HC8 := Lib.hid hcell
    have HBR := Lib.hid hbr
    have hRp := HRP.out
    clear hbr hqp hr8 hz8 hcell hchg HRP HCW HK H0 H1 H2 H3 hp0 hp1 hp2 hq2l HPO HPL HN7 HZ7 HC7 H58 HZ0 HZ3 HCELL HC3 HQ HM HP
    by_cases k6 : k = 6
    · rw [if_pos k6] at hRp
      have h20 := rtakelist_any w8 A5 c5' p.2.1 8 HR8.out HBR.out (by have := HQ5.out; omega) (by have := HQ5.out; omega) (by omega)
      have hok := fun h => tkl_ok (most := 8) HBR.out h
      rw [← HQ5.out.1] at h20 hok
      obtain ⟨t, ht⟩ : ∃ t, t = tkl p.2.1 8 := ⟨_, rfl⟩
      rw [← ht] at h20 hok hRp
      obtain ⟨ls, tj, te⟩ := t
      unfold TLPost at h20
      simp only at h20 hok hRp
      have hdl : ∀ j : Nat, (p.2.1.drop j).length = n5 - j := fun j => by rw [List.length_drop, HQ5.out.1]
      have HDL := Lib.hid hdl
      obtain ⟨c0, c1', c2, c3, c4, c5, c6⟩ := read7 HC8.out
      have H20 := Lib.hid h20
      have hlt8 := heap_lt HC8.out
      have hlz8 := heap_lt HZ8.out.zero
      have hnc := HQ5.out.2.1
      clear h20 hdl ht
      by_cases he : te = 0
      · subst he
        rw [if_pos rfl] at hRp
        obtain ⟨j, e1, _, e3, e4, e5⟩ := hok rfl
        subst e1
        rw [Int.toNat_natCast] at hRp
        unfold fin7 at hRp
        rw [HDL.out j] at hRp
        have HRP := Lib.hid hRp
        have hwl : (ls.length : Int) ≤ 8 := e4
        clear hRp hok e3 e4
        go_wp2_with fail
        refine H20.out.mono ?_
        rintro e9 w9 ⟨v9, rfl, hN9⟩
        obtain ⟨A9, n9, d9, rfl, hn9, hr9⟩ := New.form3 hN9
        have hcap9 := (New.cap hN9).2
        have hfar : ∀ x, A9 = some x → w8.heap.size ≤ x.block := fun x hx => by subst hx; exact hN9.2.2 x.block rfl
        obtain ⟨ww, h0, h1⟩ : ∃ ww : Nat → World, ww 0 = w9.drew ∧ ∀ j, ww (j + 1) = w9.drew.setCell ⟨gc, 5, none⟩ (.slice A9 n9 d9) := ⟨fun j => match j with | 0 => _ | j + 1 => _, rfl, fun _ => rfl⟩
        have hc9 := chg_heap hN9.2.1 HC8.out
        have hz9 := HZ8.out.grow hN9.2.1
        have k0 : (ww 0).heap[gc]? = some (.cells #[.int .i64 k, .int .i64 u, .int .u64 a, .int .u64 b, .int .u64 cc, .slice none 0 0, .slice none 0 0] 58) := by rw [h0]; exact hc9
        have k1 : (ww 1).heap[gc]? = some (.cells #[.int .i64 k, .int .i64 u, .int .u64 a, .int .u64 b, .int .u64 cc, .slice A9 n9 d9, .slice none 0 0] 58) := by rw [h1 0, ← h0]; exact heap_setCell k0 5 _
        have hcg : Chg (fun i => i = gc) w9 (ww 1) := by rw [h1 0]; exact chg_set_g ((Chg.refl _ _).drew) _ _
        have hz10 : Zq w gz (ww 1) := ⟨chg_keep hcg hz9.zero HNE.out.2, hz9.chg.trans hcg (fun i hi e => by have := hz9.ge; have := HLT.out.1; omega), hz9.ge⟩
        have hr10 : ReadsI (ww 1) .u64 A9 ls := hr9.chg hcg (fun x hx e => by have := hfar x hx; omega)
        have hgood := fun h => hz10.good (r := R) (x := ⟨k, u, a, b, cc, ls, []⟩) (A := A9) (B := none) (cl := d9) (d := 0) h hr10 (fun h => absurd rfl h) hcap9 (Nat.le_refl _) (fun x hx e => by have := hfar x hx; omega) (by simp)
        have hbad := fun h => hz10.bad (r := R) h
        have HG := Lib.hid hgood
        have HBD := Lib.hid hbad
        have HZ10 := Lib.hid hz10
        have HK := Lib.hid (And.intro k0 k1)
        have H0 := Lib.hid h0
        have H1 := Lib.hid (show ww 1 = (ww 0).setCell ⟨gc, 5, none⟩ (.slice A9 n9 d9) by rw [h1, h0])
        have HN9 := Lib.hid hn9
        have h00 := h0
        have hj0 : (0 : Int) ≤ (j : Int) := by omega
        have hj1 : (j : Int) ≤ (n5 : Int) := by omega
        clear hN9 hc9 hz9 k0 k1 hcg hz10 hr10 hgood hbad h0 h1 hn9 hr9 hfar hcap9 c0 c1' c2 c3 c4 c5 c6
        simp only []
        go_wp2_with fail
        refine G.wp_region_mem [5] ww (by kernel_rfl) (by kernel_rfl) (by kernel_rfl) H0.out ?_
        clear h00
        iterate 5 (apply G.mem_step (by rfl) (by rfl); (focus (intro j hj; go_simp; exact HasV.val rfl)); simp only [Act.put, List.setIfInBounds_toArray, List.set_cons_zero, List.set_cons_succ])
        apply G.mem_do 0 (by rfl) (by rfl) (by rfl) (.inl rfl) (by rfl)
        · obtain ⟨x0, x1, x2, x3, x4, x5, x6⟩ := read7 HK.out.1
          have f := frozen_of HK.out.1 5
          go_simp
          exact HasV.skip H1.out.symm
        simp only [Act.put, List.setIfInBounds_toArray, List.set_cons_zero, List.set_cons_succ]
        apply G.mem_step (by rfl) (by rfl); (focus (intro j hj; go_simp; exact HasV.val rfl))
        simp only [Act.put, List.setIfInBounds_toArray, List.set_cons_zero, List.set_cons_succ]
        refine mem_nil ?_
        show Exit.then _ _ _ _ (ww 1)
        have hcell := HK.out.2
        have hzz := HZ10.out.zero
        have HG2 := Lib.hid HG.out
        have HB2 := Lib.hid HBD.out
        clear HG HBD HK H0 H1 HZ10
        generalize ww 1 = w10 at hcell hzz HG2 HB2 ⊢
        obtain ⟨c0, c1', c2, c3, c4, c5, c6⟩ := read7 hcell
        obtain ⟨z0, z1, z2, z3, z4, z5, z6⟩ := read7 hzz
        have y0 := frozen_of hzz 0
        have y1 := frozen_of hzz 1
        have y2 := frozen_of hzz 2
        have y3 := frozen_of hzz 3
        have y4 := frozen_of hzz 4
        have y5 := frozen_of hzz 5
        have y6 := frozen_of hzz 6
        clear hcell hzz
        obtain rfl : n9 = ls.length := HN9.out
        by_cases hh : 0 < n5 - j
        · have FZ := Lib.hid (HB2.out (by have := HRP.out; rw [if_pos hh] at this; exact this))
          have hh2 : j < n5 := by omega
          go_wp2_with fail
          all_goals exact bodyPost_ret (v := .tuple #[cv c7zero none 0 none 0, .int .i64 2]) (by simp [results, Try.results44, go_sem, cv, c7zero, z0, z1, z2, z3, z4, z5, z6]) rfl (FZ.out _ (by repeat (first | (with_reducible exact Chg.refl _ _) | (with_reducible refine chg_set_g ?_ _ _))))
        · have FG := Lib.hid (HG2.out (by have := HRP.out; rw [if_neg hh] at this; exact this))
          have hh2 : n5 - j = 0 := by omega
          go_wp2_with fail
          all_goals exact bodyPost_ret (v := .tuple #[cv ⟨k, u, a, b, cc, ls, []⟩ A9 d9 none 0, .int .i64 0]) (by simp [results, Try.results44, go_sem, cv, k6, z0, z1, z2, z3, z4, z5, z6]) rfl (FG.out _ (by repeat (first | (with_reducible exact Chg.refl _ _) | (with_reducible refine chg_set_g ?_ _ _))))
      · rw [if_neg he] at hRp
        have HRP := Lib.hid hRp
        clear hRp hok
        go_wp2_with fail
        refine H20.out.mono ?_
        rintro e9 w9 ⟨v9, rfl, hN9⟩
        have hz := HZ8.out.grow hN9.2.1
        have HZ := Lib.hid hz
        clear hN9 hz c0 c1' c2 c3 c4 c5 c6
        simp only []
        obtain ⟨z0, z1, z2, z3, z4, z5, z6⟩ := read7 HZ.out.zero
        have y0 := frozen_of HZ.out.zero 0
        have y1 := frozen_of HZ.out.zero 1
        have y2 := frozen_of HZ.out.zero 2
        have y3 := frozen_of HZ.out.zero 3
        have y4 := frozen_of HZ.out.zero 4
        have y5 := frozen_of HZ.out.zero 5
        have y6 := frozen_of HZ.out.zero 6
        have FZ := Lib.hid (HZ.out.bad HRP.out)
        go_wp2_with fail
        exact bodyPost_ret (v := .tuple #[cv c7zero none 0 none 0, .int .i64 2]) (by simp [results, Try.results44, go_sem, cv, c7zero, z0, z1, z2, z3, z4, z5, z6]) rfl (FZ.out _ (by repeat (first | (with_reducible exact Chg.refl _ _) | (with_reducible refine chg_set_g ?_ _ _))))
    rw [if_neg k6] at hRp
    by_cases k10 : k = 10
    · rw [if_pos k10] at hRp
      have h18 := rtake_any w8 A5 c5' p.2.1 HR8.out HBR.out (by have := HQ5.out; omega) (by have := HQ5.out; omega)
      have hf := tk_facts HBR.out
      rw [← HQ5.out.1] at h18 hf hRp
      unfold RTkPost at h18
      obtain ⟨t, ht⟩ : ∃ t, t = tk p.2.1 := ⟨_, rfl⟩
      rw [← ht] at h18 hf hRp
      obtain ⟨x, kk, te⟩ := t
      simp only at h18 hf hRp
      obtain ⟨c0, c1', c2, c3, c4, c5, c6⟩ := read7 HC8.out
      have H18 := Lib.hid h18
      have hlt8 := heap_lt HC8.out
      have hlz8 := heap_lt HZ8.out.zero
      have hnc := HQ5.out.2.1
      clear h18 ht
      by_cases he : te = 0
      · subst he
        have hf' : U64' x ∧ 1 ≤ kk ∧ kk ≤ (n5 : Int) := by
          rcases hf with h | h
          · exact ⟨h.2.1, h.2.2.1, h.2.2.2.2.1⟩
          · omega
        obtain ⟨⟨hx0, hx1⟩, hk1, hk2⟩ := hf'
        obtain ⟨K, rfl⟩ : ∃ K : Nat, kk = (K : Int) := ⟨kk.toNat, by omega⟩
        obtain ⟨N, rfl⟩ : ∃ N : Nat, x = (N : Int) := ⟨x.toNat, by omega⟩
        simp only [Int.toNat_natCast, true_and] at hRp
        clear hf
        by_cases hN : (N : Int) ≤ 20000
        · by_cases hNK : (N : Int) ≤ (n5 : Int) - (K : Int)
          · rw [if_pos ⟨hN, hNK⟩] at hRp
            have hKN : K + N ≤ n5 := by omega
            have hbs : (p.2.1.take (K + N)).drop K = (p.2.1.drop K).take N := by rw [List.drop_take]; congr 1; omega
            have hcut := cutA_sub HR8.out K (K + N) (c := c5') (by have := HQ5.out.1; omega) (by have := HQ5.out.1; omega)
            rw [hbs] at hcut
            obtain ⟨bs, hbse⟩ : ∃ bs, bs = (p.2.1.drop K).take N := ⟨_, rfl⟩
            have hbl : bs.length = N := by rw [hbse, List.length_take, List.length_drop, ← HQ5.out.1]; omega
            rw [← hbse] at hcut hRp
            unfold fin7 at hRp
            have hdl : ((p.2.1.drop K).drop N).length = n5 - (K + N) := by rw [List.length_drop, List.length_drop, ← HQ5.out.1]; omega
            rw [hdl] at hRp
            have HRP := Lib.hid hRp
            have HCUT := Lib.hid hcut
            have HBL := Lib.hid hbl
            clear hRp hcut hbl hbs hbse hdl
            go_wp2_with fail
            refine H18.out.mono ?_
            rintro e9 w9 ⟨rfl, hC9⟩
            have h0n : NewB w9 (w9.alloc (.cells #[] 5)).drew (.slice (some ⟨w9.heap.size, 0, none⟩) 0 0) [] := New.chg (new_lit w9 [] (by simp)) ((Chg.refl _ _).drew)
            obtain ⟨A9, d9, n9, w11, hap, hN11⟩ := NewB.app (cB := c5' - K) h0n rfl HBL.out (((HCUT.out.chg hC9 (fun _ _ => id)).alloc (.cells #[] 5)).chg (Chg.refl (fun _ => False) _).drew (fun _ _ => id)) (by simp; omega)
            have hc11 := chg_heap hN11.2.1 (chg_heap hC9 HC8.out)
            have hz11 := (HZ8.out.grow hC9).grow hN11.2.1
            rw [List.nil_append] at hN11
            obtain ⟨A', n', d', hv', hn11, hr11⟩ := New.form3 hN11
            cases hv'
            have hfar : ∀ x, A9 = some x → w9.heap.size ≤ x.block := fun x hx => by subst hx; exact hN11.2.2 x.block rfl
            have hcap11 := (New.cap hN11).2
            have hsz9 := heap_lt (chg_heap hC9 HC8.out)
            have hsz9z := heap_lt (HZ8.out.grow hC9).zero
            obtain ⟨ww, h0, h1, h2, h3⟩ : ∃ ww : Nat → World, ww 0 = w9.drew ∧ ww 1 = (w9.alloc (.cells #[] 5)).drew ∧ ww 2 = w11 ∧ ∀ j, ww (j + 3) = w11.setCell ⟨gc, 6, none⟩ (.slice A9 n9 d9) := ⟨fun j => match j with | 0 => _ | 1 => _ | 2 => _ | j + 3 => _, rfl, rfl, rfl, fun _ => rfl⟩
            have k2 : (ww 2).heap[gc]? = some (.cells #[.int .i64 k, .int .i64 u, .int .u64 a, .int .u64 b, .int .u64 cc, .slice none 0 0, .slice none 0 0] 58) := by rw [h2]; exact hc11
            have k3 : (ww 3).heap[gc]? = some (.cells #[.int .i64 k, .int .i64 u, .int .u64 a, .int .u64 b, .int .u64 cc, .slice none 0 0, .slice A9 n9 d9] 58) := by rw [h3 0, ← h2]; exact heap_setCell k2 6 _
            have hcg : Chg (fun i => i = gc) w11 (ww 3) := by rw [h3 0]; exact chg_set_g (Chg.refl _ _) _ _
            have hz10 : Zq w gz (ww 3) := ⟨chg_keep hcg hz11.zero HNE.out.2, hz11.chg.trans hcg (fun i hi e => by have := hz11.ge; have := HLT.out.1; omega), hz11.ge⟩
            have hr10 : ReadsI (ww 3) .u8 A9 bs := hr11.chg hcg (fun x hx e => by have := hfar x hx; omega)
            have hgood := fun h => hz10.good (r := R) (x := ⟨k, u, a, b, cc, [], bs⟩) (A := none) (B := A9) (cl := 0) (d := d9) h (fun h => absurd rfl h) hr10 (Nat.le_refl _) hcap11 (by simp) (fun x hx e => by have := hfar x hx; omega)
            have hbad := fun h => hz10.bad (r := R) h
            have HG := Lib.hid hgood
            have HBD := Lib.hid hbad
            have HZ10 := Lib.hid hz10
            have HK := Lib.hid (And.intro k2 k3)
            have H0 := Lib.hid h0
            have H1 := Lib.hid h1
            have H2 := Lib.hid h2
            have H3 := Lib.hid (show ww 3 = (ww 2).setCell ⟨gc, 6, none⟩ (.slice A9 n9 d9) by rw [h3 0, h2])
            have HAP := Lib.hid hap
            have HN9 := Lib.hid hn11
            have HC9 := Lib.hid hC9
            have HKN := Lib.hid hKN
            have hNK2 : ¬ ((n5 : Int) - (K : Int) < (N : Int)) := by omega
            have hN2 : ¬ ((20000 : Int) < (N : Int)) := by omega
            clear h0 h1 h2 h3 h0n hap hN11 hC9 hKN k2 k3 hcg hz10 hr10 hr11 hgood hbad hn11 hfar hcap11 hc11 hz11 hsz9 hsz9z c0 c1' c2 c3 c4 c5 c6
            simp only []
            go_upto_region 19 with (fail)
            have hKN := HKN.out
            have hw1 : IntKind.i64.wrap (N : Int) = (N : Int) := wrap64_id (by omega)
            have hw2 : IntKind.i64.wrap ((K : Int) + (N : Int)) = (K : Int) + (N : Int) := wrap64_id (by omega)
            have hs1 : ∀ W : World, (Instr.sliceAt 22 (.slice A5 n5 c5') (some (.int .i64 (K : Int))) (some (.int .i64 ((K : Int) + (N : Int)))) none).run Try.prog W = .ok (.slice (cutA A5 K c5') N (c5' - K)) W := fun W => by
              have h := run_cut (ki := .i64) (kj := .i64) Try.underlying22 (by kernel_rfl : (Try.prog.info? 5).map (·.size) = some 1) A5 n5 c5' K (K + N) (by omega) (by omega) W
              rw [Nat.add_sub_cancel_left] at h
              exact h
            have hs2 : ∀ W : World, (Instr.sliceAt 22 (.slice A5 n5 c5') (some (.int .i64 ((K : Int) + (N : Int)))) none none).run Try.prog W = .ok (.slice (cutA A5 (K + N) c5') (n5 - (K + N)) (c5' - (K + N))) W := fun W =>
              run_cutL (ki := .i64) Try.underlying22 (by kernel_rfl : (Try.prog.info? 5).map (·.size) = some 1) A5 n5 c5' (K + N) (by omega) (by omega) W
            have HS1 := Lib.hid hs1
            have HS2 := Lib.hid hs2
            clear hs1 hs2
            refine G.wp_region_mem [0, 8, 16] ww (by kernel_rfl) (by kernel_rfl) (by kernel_rfl) H0.out ?_
            apply G.mem_do 0 (by rfl) (by rfl) (by rfl) (.inl rfl) (by rfl)
            · rw [H0.out]
              go_simp
              exact HasV.val H1.out.symm
            simp only [Act.put, List.setIfInBounds_toArray, List.set_cons_zero, List.set_cons_succ]
            iterate 6 (apply G.mem_step (by rfl) (by rfl); (focus (intro j hj; go_simp; exact HasV.val rfl)); simp only [Act.put, List.setIfInBounds_toArray, List.set_cons_zero, List.set_cons_succ])
            apply G.mem_step (by rfl) (by rfl)
            · intro j hj
              exact hasV_slice 22 (.tmp 122) (some (.tmp 123)) (some (.tmp 127)) rfl _ _ _ _ rfl rfl rfl (HS1.out _) rfl
            simp only [Act.put, List.setIfInBounds_toArray, List.set_cons_zero, List.set_cons_succ]
            apply G.mem_do 1 (by rfl) (by rfl) (by rfl) (.inr (by first | kernel_rfl | decide)) (by rfl)
            · exact hasV_append (.tmp 121) (.tmp 128) 22 rfl _ _ _ _ rfl rfl (by rw [H1.out]; exact HAP.out) H2.out.symm
            simp only [Act.put, List.setIfInBounds_toArray, List.set_cons_zero, List.set_cons_succ]
            iterate 5 (apply G.mem_step (by rfl) (by rfl); (focus (intro j hj; go_simp; exact HasV.val rfl)); simp only [Act.put, List.setIfInBounds_toArray, List.set_cons_zero, List.set_cons_succ])
            apply G.mem_step (by rfl) (by rfl)
            · intro j hj
              exact hasV_slice 22 (.tmp 130) (some (.tmp 134)) none rfl _ _ _ _ rfl rfl rfl (HS2.out _) rfl
            simp only [Act.put, List.setIfInBounds_toArray, List.set_cons_zero, List.set_cons_succ]
            apply G.mem_step (by rfl) (by rfl); (focus (intro j hj; go_simp; exact HasV.val rfl))
            simp only [Act.put, List.setIfInBounds_toArray, List.set_cons_zero, List.set_cons_succ]
            apply G.mem_do 2 (by rfl) (by rfl) (by rfl) (.inr (by first | kernel_rfl | decide)) (by rfl)
            · obtain ⟨x0, x1, x2, x3, x4, x5, x6⟩ := read7 HK.out.1
              have f := frozen_of HK.out.1 6
              go_simp
              exact HasV.skip H3.out.symm
            simp only [Act.put, List.setIfInBounds_toArray, List.set_cons_zero, List.set_cons_succ]
            apply G.mem_step (by rfl) (by rfl); (focus (intro j hj; go_simp; exact HasV.val rfl))
            simp only [Act.put, List.setIfInBounds_toArray, List.set_cons_zero, List.set_cons_succ]
            refine mem_nil ?_
            show Exit.then _ _ _ _ (ww 3)
            have hcell := HK.out.2
            have hzz := HZ10.out.zero
            have HG2 := Lib.hid HG.out
            have HB2 := Lib.hid HBD.out
            clear HG HBD HK H0 H1 H2 H3 HZ10 HAP HS1 HS2 hw1 hw2
            generalize ww 3 = w10 at hcell hzz HG2 HB2 ⊢
            obtain ⟨c0, c1', c2, c3, c4, c5, c6⟩ := read7 hcell
            obtain ⟨z0, z1, z2, z3, z4, z5, z6⟩ := read7 hzz
            have y0 := frozen_of hzz 0
            have y1 := frozen_of hzz 1
            have y2 := frozen_of hzz 2
            have y3 := frozen_of hzz 3
            have y4 := frozen_of hzz 4
            have y5 := frozen_of hzz 5
            have y6 := frozen_of hzz 6
            clear hcell hzz
            obtain rfl : n9 = bs.length := HN9.out
            by_cases hh : 0 < n5 - (K + N)
            · have FZ := Lib.hid (HB2.out (by have := HRP.out; rw [if_pos hh] at this; exact this))
              have hh2 : K + N < n5 := by omega
              go_wp2_with fail
              all_goals exact bodyPost_ret (v := .tuple #[cv c7zero none 0 none 0, .int .i64 2]) (by simp [results, Try.results44, go_sem, cv, c7zero, z0, z1, z2, z3, z4, z5, z6]) rfl (FZ.out _ (by repeat (first | (with_reducible exact Chg.refl _ _) | (with_reducible refine chg_set_g ?_ _ _))))
            · have FG := Lib.hid (HG2.out (by have := HRP.out; rw [if_neg hh] at this; exact this))
              have hh2 : n5 - (K + N) = 0 := by omega
              go_wp2_with fail
              all_goals exact bodyPost_ret (v := .tuple #[cv ⟨k, u, a, b, cc, [], bs⟩ none 0 A9 d9, .int .i64 0]) (by simp [results, Try.results44, go_sem, cv, k10, z0, z1, z2, z3, z4, z5, z6]) rfl (FG.out _ (by repeat (first | (with_reducible exact Chg.refl _ _) | (with_reducible refine chg_set_g ?_ _ _))))
          · rw [if_neg (by omega)] at hRp
            have HRP := Lib.hid hRp
            have hNK2 : (n5 : Int) - (K : Int) < (N : Int) := by omega
            clear hRp hNK
            go_wp2_with fail
            refine H18.out.mono ?_
            rintro e9 w9 ⟨rfl, hC9⟩
            have hz := HZ8.out.grow hC9
            have HZ := Lib.hid hz
            clear hC9 hz c0 c1' c2 c3 c4 c5 c6
            simp only []
            obtain ⟨z0, z1, z2, z3, z4, z5, z6⟩ := read7 HZ.out.zero
            have y0 := frozen_of HZ.out.zero 0
            have y1 := frozen_of HZ.out.zero 1
            have y2 := frozen_of HZ.out.zero 2
            have y3 := frozen_of HZ.out.zero 3
            have y4 := frozen_of HZ.out.zero 4
            have y5 := frozen_of HZ.out.zero 5
            have y6 := frozen_of HZ.out.zero 6
            have FZ := Lib.hid (HZ.out.bad HRP.out)
            go_wp2_with fail
            exact bodyPost_ret (v := .tuple #[cv c7zero none 0 none 0, .int .i64 2]) (by simp [results, Try.results44, go_sem, cv, c7zero, z0, z1, z2, z3, z4, z5, z6]) rfl (FZ.out _ (by repeat (first | (with_reducible exact Chg.refl _ _) | (with_reducible refine chg_set_g ?_ _ _))))
        · rw [if_neg (by omega)] at hRp
          have HRP := Lib.hid hRp
          have hN2 : (20000 : Int) < (N : Int) := by omega
          clear hRp hN
          go_wp2_with fail
          refine H18.out.mono ?_
          rintro e9 w9 ⟨rfl, hC9⟩
          have hz := HZ8.out.grow hC9
          have HZ := Lib.hid hz
          clear hC9 hz c0 c1' c2 c3 c4 c5 c6
          simp only []
          obtain ⟨z0, z1, z2, z3, z4, z5, z6⟩ := read7 HZ.out.zero
          have y0 := frozen_of HZ.out.zero 0
          have y1 := frozen_of HZ.out.zero 1
          have y2 := frozen_of HZ.out.zero 2
          have y3 := frozen_of HZ.out.zero 3
          have y4 := frozen_of HZ.out.zero 4
          have y5 := frozen_of HZ.out.zero 5
          have y6 := frozen_of HZ.out.zero 6
          have FZ := Lib.hid (HZ.out.bad HRP.out)
          go_wp2_with fail
          exact bodyPost_ret (v := .tuple #[cv c7zero none 0 none 0, .int .i64 2]) (by simp [results, Try.results44, go_sem, cv, c7zero, z0, z1, z2, z3, z4, z5, z6]) rfl (FZ.out _ (by repeat (first | (with_reducible exact Chg.refl _ _) | (with_reducible refine chg_set_g ?_ _ _))))
      · rw [if_neg (by omega)] at hRp
        have HRP := Lib.hid hRp
        clear hRp hf
        go_wp2_with fail
        refine H18.out.mono ?_
        rintro e9 w9 ⟨rfl, hC9⟩
        have hz := HZ8.out.grow hC9
        have HZ := Lib.hid hz
        clear hC9 hz c0 c1' c2 c3 c4 c5 c6
        simp only []
        obtain ⟨z0, z1, z2, z3, z4, z5, z6⟩ := read7 HZ.out.zero
        have y0 := frozen_of HZ.out.zero 0
        have y1 := frozen_of HZ.out.zero 1
        have y2 := frozen_of HZ.out.zero 2
        have y3 := frozen_of HZ.out.zero 3
        have y4 := frozen_of HZ.out.zero 4
        have y5 := frozen_of HZ.out.zero 5
        have y6 := frozen_of HZ.out.zero 6
        have FZ := Lib.hid (HZ.out.bad HRP.out)
        go_wp2_with fail
        exact bodyPost_ret (v := .tuple #[cv c7zero none 0 none 0, .int .i64 2]) (by simp [results, Try.results44, go_sem, cv, c7zero, z0, z1, z2, z3, z4, z5, z6]) rfl (FZ.out _ (by repeat (first | (with_reducible exact Chg.refl _ _) | (with_reducible refine chg_set_g ?_ _ _))))
    rw [if_neg k10] at hRp
    obtain ⟨c0, c1', c2, c3, c4, c5, c6⟩ := read7 HC8.out
    obtain ⟨z0, z1, z2, z3, z4, z5, z6⟩ := read7 HZ8.out.zero
    have y0 := frozen_of HZ8.out.zero 0
    have y1 := frozen_of HZ8.out.zero 1
    have y2 := frozen_of HZ8.out.zero 2
    have y3 := frozen_of HZ8.out.zero 3
    have y4 := frozen_of HZ8.out.zero 4
    have y5 := frozen_of HZ8.out.zero 5
    have y6 := frozen_of HZ8.out.zero 6
    unfold fin7 at hRp
    rw [← HQ5.out.1] at hRp
    by_cases h0 : 0 < n5
    · rw [if_pos h0] at hRp
      have FZ := Lib.hid (HZ8.out.bad hRp)
      clear hRp
      go_wp2_with fail
      exact bodyPost_ret (v := .tuple #[cv c7zero none 0 none 0, .int .i64 2]) (by simp [results, Try.results44, go_sem, cv, c7zero, z0, z1, z2, z3, z4, z5, z6]) rfl (FZ.out _ (by repeat (first | (with_reducible exact Chg.refl _ _) | (with_reducible refine chg_set_g ?_ _ _))))
    · rw [if_neg h0] at hRp
      obtain rfl : n5 = 0 := by omega
      have FG := Lib.hid (HZ8.out.good (A := none) (B := none) (cl := 0) (d := 0) hRp (fun h => absurd rfl h) (fun h => absurd rfl h) (Nat.le_refl _) (Nat.le_refl _) (by simp) (by simp))
      clear hRp h0
      go_wp2_with fail
      exact bodyPost_ret (v := .tuple #[cv ⟨k, u, a, b, cc, [], []⟩ none 0 none 0, .int .i64 0]) (by simp [results, Try.results44, go_sem, cv, z0, z1, z2, z3, z4, z5, z6]) rfl (FG.out _ (by repeat (first | (with_reducible exact Chg.refl _ _) | (with_reducible refine chg_set_g ?_ _ _))))
end Go.Proofs.Ytcdbchdlenkdgaa
