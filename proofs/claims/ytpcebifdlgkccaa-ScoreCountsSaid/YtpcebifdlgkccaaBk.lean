/- Scores: the document's Of. -/
import Derived.Test.YtpcebifdlgkccaaBj
import Derived.Test.YtpcebifdlgkccaaRh
set_option linter.unusedVariables false
set_option linter.unusedSimpArgs false
namespace Go.Proofs.Ytpcebifdlgkccaa
open Go.RowKit Go.Ps

theorem read4 {w : World} {g : Nat} {c0 c1 c2 c3 : Value} {t : TypeId} (h : w.heap[g]? = some (.cells #[c0, c1, c2, c3] t (0, 0))) :
    w.cell? ⟨g, 0, none⟩ = some c0 ∧ w.cell? ⟨g, 1, none⟩ = some c1 ∧ w.cell? ⟨g, 2, none⟩ = some c2 ∧ w.cell? ⟨g, 3, none⟩ = some c3 :=
  ⟨cell_of h 0 rfl, cell_of h 1 rfl, cell_of h 2 rfl, cell_of h 3 rfl⟩
theorem chg_setg {g : Nat} {a w : World} (h : Chg (fun k => k = g) a w) (i : Nat) (u : Value) : Chg (fun k => k = g) a (w.setCell ⟨g, i, none⟩ u) := h.setCell (p := ⟨g, i, none⟩) (fun _ => rfl) u
theorem chg_kp {F : Nat → Prop} {w w' : World} (h : Chg F w w') {b : Nat} {o : Obj} (hb : w.heap[b]? = some o) (hF : ¬ F b) : w'.heap[b]? = some o := (h.block b (heap_lt hb) hF).trans hb
def sc4 (a b c d : Int) (t : TypeId) : Obj := .cells #[.int .u64 a, .int .u64 b, .int .u64 c, .int .u64 d] t (0, 0)
/-- A natural that can be read. -/
def NatAt (W : World) (A : Option Addr) (m : List Int) (q : Int) : Prop := ReadsI W .u32 A m ∧ Dig m ∧ trimL m = m ∧ valN m = q
structure Rf (w : World) (gz gs : Nat) (mn sm hi lo : Int) (A : Option Addr) (m : List Int) (q : Int) (W : World) : Prop where
  zero : W.heap[gz]? = some (sc4 0 0 0 0 31)
  sc : W.heap[gs]? = some (sc4 mn sm hi lo 31)
  nat : NatAt W A m q
  chg : Chg (fun _ => False) w W
  far : ∀ a, A = some a → a.block ≠ gs ∧ a.block ≠ gz
  ne : gz ≠ gs ∧ w.heap.size ≤ gz ∧ w.heap.size ≤ gs
def NatR (x : Int) (W0 : World) (v : Value) (W : World) : Prop := ∃ A m, ∃ c : Nat, v = .slice A m.length c ∧ NatAt W A m x ∧ Chg (fun _ => False) W0 W
def NatR2 (x : Int) (W0 : World) (v : Value) (W : World) : Prop := ∃ A m, ∃ c : Nat, v = .tuple #[.slice A m.length c, .int .i64 0] ∧ NatAt W A m x ∧ Chg (fun _ => False) W0 W
theorem Rf.grow {w W W' : World} {gz gs : Nat} {mn sm hi lo : Int} {A : Option Addr} {m : List Int} {q : Int} (h : Rf w gz gs mn sm hi lo A m q W) (hc : Chg (fun _ => False) W W') : Rf w gz gs mn sm hi lo A m q W' :=
  ⟨chg_kp hc h.zero id, chg_kp hc h.sc id, ⟨h.nat.1.chg hc (fun _ _ => id), h.nat.2⟩, chg_trans h.chg hc, h.far, h.ne⟩
theorem Rf.put {w W : World} {gz gs : Nat} {mn sm hi lo mn' sm' hi' lo' : Int} {A : Option Addr} {m : List Int} {q : Int} (h : Rf w gz gs mn sm hi lo A m q W) (i : Nat) (v : Value)
    (hv : (#[.int .u64 mn, .int .u64 sm, .int .u64 hi, .int .u64 lo] : Array Value).setIfInBounds i v = #[.int .u64 mn', .int .u64 sm', .int .u64 hi', .int .u64 lo']) : Rf w gz gs mn' sm' hi' lo' A m q (W.setCell ⟨gs, i, none⟩ v) := by
  obtain ⟨n1, n2, n3⟩ := h.ne
  have hc : Chg (fun k => k = gs) W (W.setCell ⟨gs, i, none⟩ v) := chg_setg (Chg.refl _ _) i v
  refine ⟨chg_kp hc h.zero n1, ?_, ⟨h.nat.1.chg hc (fun a ha => (h.far a ha).1), h.nat.2⟩, h.chg.trans hc (fun k hk e => by omega), h.far, h.ne⟩
  have := heap_setCell h.sc i v
  rw [this, hv]
  rfl
theorem Rf.cells {w W : World} {gz gs : Nat} {mn sm hi lo : Int} {A : Option Addr} {m : List Int} {q : Int} (h : Rf w gz gs mn sm hi lo A m q W) : W.cell? ⟨gs, 0, none⟩ = some (.int .u64 mn) ∧ W.cell? ⟨gs, 1, none⟩ = some (.int .u64 sm) ∧ W.cell? ⟨gs, 2, none⟩ = some (.int .u64 hi) ∧ W.cell? ⟨gs, 3, none⟩ = some (.int .u64 lo) := read4 h.sc
theorem Rf.bad {w W : World} {gz gs : Nat} {mn sm hi lo : Int} {A : Option Addr} {m : List Int} {q : Int} (h : Rf w gz gs mn sm hi lo A m q W) {r : Sc × Int} {k : Int} (hr : r = (⟨0, 0, 0, 0⟩, k)) : ∀ W', Chg (fun k => k = gz) W W' → OfPost r w (.returned (.tuple #[(⟨0, 0, 0, 0⟩ : Sc).v, .int .i64 k])) W' := fun W' hW' => by
  subst hr
  exact ⟨rfl, h.chg.trans hW' (fun k hk e => by have := h.ne; omega)⟩
theorem Rf.good {w W : World} {gz gs : Nat} {mn sm hi lo : Int} {A : Option Addr} {m : List Int} {q : Int} (h : Rf w gz gs mn sm hi lo A m q W) {r : Sc × Int} (hr : r = (⟨mn, sm, hi, lo⟩, 0)) : ∀ W', Chg (fun k => k = gz) W W' → OfPost r w (.returned (.tuple #[(⟨mn, sm, hi, lo⟩ : Sc).v, .int .i64 0])) W' := fun W' hW' => by
  subst hr
  exact ⟨rfl, h.chg.trans hW' (fun k hk e => by have := h.ne; omega)⟩
theorem sumZ_take_snoc (l : List Int) (k : Nat) (h : k < l.length) : sumZ (l.take (k + 1)) = sumZ (l.take k) + l.getD k 0 := by
  rw [take_snocN l k h]
  generalize l.take k = a
  generalize l.getD k 0 = x
  induction a with
  | nil => simp [sumZ]
  | cons y a ih => simp only [List.cons_append, sumZ, ih]; omega
theorem sq_low {l : List Int} (hu : AllU l) (k : Nat) (h : sumZ (l.take k) < 18446744073709551616) : 0 ≤ sqs (l.take k) ∧ sqs (l.take k) < 340282366920938463463374607431768211456 := by
  have hu' : AllU (l.take k) := fun x hx => hu x (List.mem_of_mem_take hx)
  have h1 := sqs_le (l.take k) hu'
  have h0 := sumZ_nonneg (l.take k) hu'
  have hSS : sumZ (l.take k) * sumZ (l.take k) ≤ 18446744073709551615 * 18446744073709551615 := Int.mul_le_mul (by omega) (by omega) h0 (by omega)
  omega
theorem pow200 {n : Int} (h : n < 680564733841876926926749214863536422912) : n < 4294967296 ^ 200 := Int.lt_of_lt_of_le h (by decide +kernel)
theorem pow4 {n : Int} (h : n < 340282366920938463463374607431768211456) : n < 4294967296 ^ 4 := Int.lt_of_lt_of_le h (by decide +kernel)
theorem same10_any (w : World) (A B : Option Addr) (c d : Nat) (l : List Int) (hA : ReadsI w .u64 A l) (hB : ReadsI w .u64 B l) (hl : l.length ≤ 1000000) : Calls Try.prog 10 #[.slice A l.length c, .slice B l.length d] w fun e w' => e = .returned (.bool true) ∧ Chg (fun _ => False) w w' := by
  have HA := Lib.hid hA
  have HB := Lib.hid hB
  clear hA hB
  go_enter Try.func10, Try.ntmps10
  go_wp2
  go_loopw [13] (fun i wr => ∃ k n : Nat, k ≤ l.length ∧ i = .int .i64 k ∧ wr = w.drewN n) (fun i _ => l.length - (intOf i).toNat)
  case atStart => exact ⟨0, 0, by omega, rfl, rfl⟩
  case round =>
    obtain ⟨k, n, hk, rfl, rfl⟩ := hrel
    by_cases hk2 : k < l.length
    · obtain ⟨g, o, rfl, hx⟩ := HA.out.plain (by rintro rfl; simp at hk2)
      obtain ⟨g2, o2, rfl, hx2⟩ := HB.out.plain (by rintro rfl; simp at hk2)
      have p1 := hx k hk2
      have p2 := hx2 k hk2
      obtain ⟨x, hxe⟩ : ∃ x, x = l.getD k 0 := ⟨_, rfl⟩
      rw [← hxe] at p1 p2
      clear hx hx2 hxe
      go_wp2
      go_quiet (fail)
      go_wp2
      go_roundw
      case rel => exact ⟨k + 1, _, by omega, by go_num, rfl⟩
      case measure => simp [intOf]; omega
    · have ej : k = l.length := by omega
      subst ej
      go_wp2
      go_ret
      exact ⟨rfl, (Chg.refl _ _).drewN _⟩
theorem val4 {m : List Int} (h : m.length ≤ 4) : valN m = m.getD 0 0 + 4294967296 * m.getD 1 0 + 18446744073709551616 * m.getD 2 0 + 79228162514264337593543950336 * m.getD 3 0 := by
  match m, h with
  | [], _ => rfl
  | [a], _ => simp [valN]
  | [a, b], _ => simp [valN]
  | [a, b, c], _ => simp [valN]; omega
  | [a, b, c, d], _ => simp [valN]; omega
theorem score_eq {l : List Int} {S mn : Int} (hT : sumU 0 l = (S, 0)) (hS : S = sumZ l) (hm : l = [] ∧ mn = 0 ∨ l ≠ [] ∧ minU (l.getD 0 0) (l.drop 1) = mn) : scoreOf l = (⟨mn, S, sqs l / 18446744073709551616, sqs l % 18446744073709551616⟩, 0) := by
  unfold scoreOf
  rw [hT]
  cases l with
  | nil =>
    rcases hm with h | h
    · rw [h.2, hS]; rfl
    · exact absurd rfl h.1
  | cons x t =>
    rcases hm with h | h
    · cases h.1
    · simp only [List.getD_cons_zero, List.drop_succ_cons, List.drop_zero] at h
      simp only [if_true]
      rw [h.2]
theorem or_join (a b : Int) (ha : 0 ≤ a ∧ a < 4294967296) (hb : 0 ≤ b ∧ b < 4294967296) : bits .or .u64 (a * 4294967296) b = a * 4294967296 + b := by
  rw [bits_join .u64 64 (by decide) wraps_u64 32 (a * 4294967296) b (by omega) (by omega) (by omega) (by omega) (by omega) (by omega)]
def put4 (m : List Int) (j i : Nat) : Int := if i < j then m.getD i 0 else 0
set_option maxRecDepth 100000 in
set_option maxHeartbeats 8000000 in
theorem rof_any (l : List Int) (w : World) (A : Option Addr) (c : Nat) (hr : ReadsI w .u64 A l) (hl : l.length ≤ 400) (hu : AllU l) : Calls Try.prog 9 #[.slice A l.length c] w (OfPost (scoreOf l) w) := by
  obtain ⟨W0, hW0⟩ : ∃ W, W = (w.alloc (.cells #[.int .u64 0, .int .u64 0, .int .u64 0, .int .u64 0] 31)).alloc (.cells #[.int .u64 0, .int .u64 0, .int .u64 0, .int .u64 0] 31) := ⟨_, rfl⟩
  obtain ⟨gz, hgz⟩ : ∃ g, g = w.heap.size := ⟨_, rfl⟩
  obtain ⟨gs, hgs⟩ : ∃ g, g = w.heap.size + 1 := ⟨_, rfl⟩
  have hC0 : Chg (fun _ => False) w W0 := by rw [hW0]; exact ((Chg.refl _ _).alloc _).alloc _
  have hz0 : W0.heap[gz]? = some (sc4 0 0 0 0 31) := by rw [hW0, hgz]; exact heap_alloc_ne (heap_alloc_at _ _)
  have hs0 : W0.heap[gs]? = some (sc4 0 0 0 0 31) := by rw [hW0, hgs]; exact heap_at _ _ _ (by simp)
  have hof := of18_any 0 W0 ⟨by omega, by omega⟩
  unfold LP at hof
  have hne0 : gz ≠ gs ∧ w.heap.size ≤ gz ∧ w.heap.size ≤ gs ∧ gs < W0.heap.size ∧ gz < W0.heap.size := ⟨by omega, by omega, by omega, heap_lt hs0, heap_lt hz0⟩
  obtain ⟨R, hR⟩ : ∃ R, R = scoreOf l := ⟨_, rfl⟩
  rw [← hR]
  obtain ⟨T, hT⟩ : ∃ T, T = sumU 0 l := ⟨_, rfl⟩
  have HT := Lib.hid (show T = sumU 0 (l.drop 0) from hT)
  have HT0 := Lib.hid hT
  have HR := Lib.hid hR
  have HA := Lib.hid hr
  have HU := Lib.hid hu
  obtain ⟨nl, hnl⟩ : ∃ n, n = l.length := ⟨_, rfl⟩
  rw [← hnl] at hl ⊢
  have HNL := Lib.hid hnl
  have HW0 := Lib.hid hW0
  have HGZ := Lib.hid hgz
  have HGS := Lib.hid hgs
  have HC0 := Lib.hid hC0
  have HZ0 := Lib.hid hz0
  have HS0 := Lib.hid hs0
  have HNE := Lib.hid hne0
  have HOF := Lib.hid hof
  clear hr hu hR hT hnl hW0 hgz hgs hC0 hz0 hs0 hof hne0
  go_enter Try.func9, Try.ntmps9
  go_upto_region 2 with (fail)
  rw [← HW0.out, ← HGS.out, ← HGZ.out]
  clear HW0 HGS HGZ
  go_wp2_with fail
  refine HOF.out.mono ?_
  rintro e1 w1 ⟨v, m0, rfl, hN, h3, h4, h5⟩
  obtain ⟨A1, n1, c1, rfl, hn1, hr1⟩ := New.form3 hN
  have hfar1 : ∀ a, A1 = some a → W0.heap.size ≤ a.block := fun a ha => by subst ha; exact hN.2.2 a.block rfl
  have hcap1 := (New.cap hN).2
  have hRf : Rf w gz gs 0 0 0 0 A1 m0 0 w1 := ⟨chg_kp hN.2.1 HZ0.out id, chg_kp hN.2.1 HS0.out id, ⟨hr1, h3, h4, h5⟩, chg_trans HC0.out hN.2.1, fun a ha => by have := hfar1 a ha; have := HNE.out; omega, ⟨HNE.out.1, HNE.out.2.1, HNE.out.2.2.1⟩⟩
  have HRF := Lib.hid hRf
  have HN1 := Lib.hid hn1
  have HCA := Lib.hid hcap1
  clear hN h3 h4 h5 hr1 hfar1 hRf HOF HC0 HZ0 HS0 hn1 hcap1
  simp only []
  go_wp2_with fail
  go_loopw [5, 16] (fun v i wr => ∃ (k n c2 : Nat) (m : List Int) (A2 : Option Addr) (mn S : Int), k ≤ nl ∧ i = .int .i64 k ∧ v = .slice A2 n c2 ∧ 0 ≤ S ∧ S < 18446744073709551616 ∧ Hid (n = m.length) ∧ Hid (T = sumU S (l.drop k)) ∧ Hid (S = sumZ (l.take k)) ∧ Hid (k = 0 ∧ mn = 0 ∨ 0 < k ∧ minU (l.getD 0 0) (l.drop 1) = minU mn (l.drop k)) ∧ Hid (Rf w gz gs mn S 0 0 A2 m (sqs (l.take k)) wr)) (fun _ i _ => nl - (intOf i).toNat)
  case atStart => exact ⟨0, n1, c1, m0, A1, 0, 0, by omega, rfl, rfl, by omega, by omega, HN1, HT, Lib.hid rfl, Lib.hid (.inl ⟨rfl, rfl⟩), HRF⟩
  case round =>
    obtain ⟨k, n, c2, m, A2, mn, S, hk, rfl, rfl, hS0, hS1, hn, hTk, hSk, hmn, hRf⟩ := hrel
    by_cases hk2 : k < nl
    · obtain ⟨g, o, rfl, hx⟩ := HA.out.plain (by rintro rfl; have := HNL.out; simp at this; omega)
      obtain ⟨x, hxe⟩ : ∃ x, x = l.getD k 0 := ⟨_, rfl⟩
      have p0 := hx k (by rw [← HNL.out]; exact hk2)
      have hxu := HU.out.getD k
      have hd := drop_getD l k (by rw [← HNL.out]; exact hk2)
      have hTk2 := hTk.out
      have hzs := sumZ_take_snoc l k (by rw [← HNL.out]; exact hk2)
      have hqs := sqs_take_snoc l k (by rw [← HNL.out]; exact hk2)
      rw [hd, ← hxe, sumU] at hTk2
      rw [← hxe] at p0 hxu hzs hqs
      rw [← hSk.out] at hzs
      have HXE := Lib.hid hxe
      have HD := Lib.hid hd
      have HZS := Lib.hid hzs
      have HQS := Lib.hid hqs
      have HP0 := Lib.hid p0
      have hadd := fun W => add14_any S x W ⟨hS0, hS1⟩ hxu
      unfold addU at hadd
      obtain ⟨hx0, hx1⟩ := hxu
      have HS0 := Lib.hid hS0
      have hkI : (k : Int) < (nl : Int) := by omega
      have hk0 : (0 : Int) ≤ (k : Int) := by omega
      by_cases hfit : S + x < 18446744073709551616
      · rw [if_pos hfit] at hTk2 hadd
        have HTK2 := Lib.hid hTk2
        have HADD := Lib.hid hadd
        have p1 := chg_cell hRf.out.chg p0 id
        have d1 := hRf.out.cells.2.1
        clear hx hxe hd hTk2 hzs hqs hTk p0 hadd
        go_wp2_with fail
        refine wp_region_same (fun W => Chg (fun _ => False) wr W) (by kernel_rfl) (by kernel_rfl) ((Chg.refl _ _).drew) ?_
        repeat (first | (refine wpDet_skip (by rfl) ?_; simp only [Act.put, List.setIfInBounds_toArray, List.set_cons_zero, List.set_cons_succ]) | (apply wpDet_step (by rfl); (focus (intro W hW; have q1 := chg_cell hW p1 id; have q2 := chg_cell hW d1 id; go_simp; (first | (with_reducible exact HasV.val hW) | ((with_reducible refine HasV.call (R := fun W' => W = W') (HADD.out W) ?_); exact fun w' h => by subst h; exact hW)))); simp only [Act.put, List.setIfInBounds_toArray, List.set_cons_zero, List.set_cons_succ]))
        refine wpDet_nil ?_
        intro W2 hW2
        have hR2 := hRf.out.grow hW2
        obtain ⟨d0, d1', d2, d3'⟩ := hR2.cells
        have f1 := frozen_of hR2.sc 1
        have hR3 := hR2.put (mn' := mn) (sm' := S + x) (hi' := 0) (lo' := 0) 1 (.int .u64 (S + x)) rfl
        obtain ⟨W3, hW3⟩ : ∃ W, W = W2.setCell ⟨gs, 1, none⟩ (.int .u64 (S + x)) := ⟨_, rfl⟩
        have HW3 := Lib.hid hW3
        rw [← hW3] at hR3
        have HR3 := Lib.hid hR3
        clear hW2 p1 d1 hR2 hW3 hR3
        go_upto_region 10 with (fail)
        rw [← HW3.out]
        clear d0 d1' d2 d3' f1 HW3
        have p3 := chg_cell HR3.out.chg HP0.out id
        have d0 := HR3.out.cells.1
        -- the least one
        have hjoin : ∀ (W : World) (mn' : Int), Hid (Rf w gz gs mn' (S + x) 0 0 A2 m (sqs (l.take k)) W) → Hid (0 < k + 1 ∧ minU (l.getD 0 0) (l.drop 1) = minU mn' (l.drop (k + 1))) → True := fun _ _ _ _ => trivial
        clear hjoin
        by_cases hk00 : k = 0
        · have hmin4 := Lib.hid (show minU (l.getD 0 0) (l.drop 1) = minU x (l.drop (k + 1)) by rw [HXE.out, hk00])
          have hkb : ((k : Int) == 0) = true := by simp; omega
          refine wp_region_same (fun W => Chg (fun _ => False) W3 W) (by kernel_rfl) (by kernel_rfl) ((Chg.refl _ _).drew) ?_
          repeat (first | (refine wpDet_skip (by rfl) ?_; simp only [Act.put, List.setIfInBounds_toArray, List.set_cons_zero, List.set_cons_succ]) | (apply wpDet_step (by rfl); (focus (intro W hW; have q1 := chg_cell hW p3 id; have q2 := chg_cell hW d0 id; go_simp; (first | (with_reducible exact HasV.val hW)))); simp only [Act.put, List.setIfInBounds_toArray, List.set_cons_zero, List.set_cons_succ]))
          refine wpDet_nil ?_
          intro W3b hW3b
          have hR3b := HR3.out.grow hW3b
          have p3b := chg_cell hR3b.chg HP0.out id
          have d0b := hR3b.cells.1
          have f0b := frozen_of hR3b.sc 0
          obtain ⟨W4, hW4⟩ : ∃ W, W = W3b.setCell ⟨gs, 0, none⟩ (.int .u64 x) := ⟨_, rfl⟩
          have hR4 := Lib.hid (by have h := hR3b.put (mn' := x) (sm' := S + x) (hi' := 0) (lo' := 0) 0 (.int .u64 x) rfl; rw [← hW4] at h; exact h)
          have HW4 := Lib.hid hW4
          clear hW3b hR3b p3 d0 hW4 hk00 hkb HR3
          go_upto_region 12 with (fail)
          rw [← HW4.out]
          clear p3b d0b f0b HW4
          have hR4' := hR4.out
          have p4 := chg_cell hR4'.chg HP0.out id
          have HR4 := hR4
          clear hR4 hR4'
          go_wp2_with fail
          refine H.wp_region_seq (fun W => W.cell? ⟨g, o + k, none⟩ = some (.int .u64 x)) [(0, 0), (1, 0), (2, 0), (3, 0), (5, 0), (6, 0), (7, 0), (8, 0), (4, 1), (9, 1), (10, 1), (11, 0), (12, 0), (13, 0), (14, 0), (15, 0)] (by kernel_rfl) (by kernel_rfl) (by kernel_rfl) (by exact p4) ?_
          iterate 8 (apply H.look (by rfl) (by rfl); (focus (intro W hW; go_simp; exact HasV.val rfl)); simp only [Act.put, List.setIfInBounds_toArray, List.set_cons_zero, List.set_cons_succ])
          refine H.link (NatR x W4) (by rfl) (by rfl) ?_ (fun v W hR => by obtain ⟨_, _, _, _, _, hC⟩ := hR; exact chg_cell hC p4 id) ?_
          · go_simp
            refine H.HasR.call ((of18_any x _ ⟨hx0, hx1⟩).mono ?_)
            rintro e W ⟨v, m5, rfl, hN, h3, h4, h5⟩
            obtain ⟨A5, n5, c5, rfl, hn5, hr5⟩ := New.form3 hN
            subst hn5
            exact ⟨_, rfl, A5, m5, c5, rfl, ⟨hr5, h3, h4, h5⟩, (Chg.refl (fun _ => False) W4).drew.trans hN.2.1 (fun _ _ => id)⟩
          rintro v W5 ⟨A5, m5, c5, rfl, hnat5, hC5⟩
          simp only [Act.put, List.setIfInBounds_toArray, List.set_cons_zero, List.set_cons_succ]
          refine H.link (NatR x W5) (by rfl) (by rfl) ?_ (fun v W hR => by obtain ⟨_, _, _, _, _, hC⟩ := hR; exact chg_cell hC (chg_cell hC5 p4 id) id) ?_
          · go_simp
            refine H.HasR.call ((of18_any x _ ⟨hx0, hx1⟩).mono ?_)
            rintro e W ⟨v, m6, rfl, hN, h3, h4, h5⟩
            obtain ⟨A6, n6, c6, rfl, hn6, hr6⟩ := New.form3 hN
            subst hn6
            exact ⟨_, rfl, A6, m6, c6, rfl, ⟨hr6, h3, h4, h5⟩, hN.2.1⟩
          rintro v W6 ⟨A6, m6, c6, rfl, hnat6, hC6⟩
          simp only [Act.put, List.setIfInBounds_toArray, List.set_cons_zero, List.set_cons_succ]
          have hml5 := trimL_low (k := 4) hnat5.2.1 hnat5.2.2.1 (by rw [hnat5.2.2.2]; exact pow4 (by omega))
          have hml6 := trimL_low (k := 4) hnat6.2.1 hnat6.2.2.1 (by rw [hnat6.2.2.2]; exact pow4 (by omega))
          have hxx : x * x ≤ 18446744073709551615 * 18446744073709551615 := Int.mul_le_mul (by omega) (by omega) (by omega) (by omega)
          have hm19 := mul19_any W6 A5 A6 c5 c6 m5 m6 (hnat5.1.chg hC6 (fun _ _ => id)) hnat6.1 hnat5.2.1 hnat6.2.1 hnat5.2.2.1 hnat6.2.2.1 (by omega) (by omega) (by rw [hnat5.2.2.2, hnat6.2.2.2]; exact pow200 (by omega))
          rw [hnat5.2.2.2, hnat6.2.2.2] at hm19
          refine H.link (NatR2 (x * x) W6) (by rfl) (by rfl) ?_ (fun v W hR => by obtain ⟨_, _, _, _, _, hC⟩ := hR; exact chg_cell hC (chg_cell hC6 (chg_cell hC5 p4 id) id) id) ?_
          · go_simp
            refine H.HasR.call (hm19.mono ?_)
            rintro e W ⟨v, m7, rfl, hN, h3, h4, h5⟩
            obtain ⟨A7, n7, c7, rfl, hn7, hr7⟩ := New.form3 hN
            subst hn7
            exact ⟨_, rfl, A7, m7, c7, rfl, ⟨hr7, h3, h4, h5⟩, hN.2.1⟩
          rintro v W7 ⟨A7, m7, c7, rfl, hnat7, hC7⟩
          simp only [Act.put, List.setIfInBounds_toArray, List.set_cons_zero, List.set_cons_succ]
          iterate 5 (apply H.look (by rfl) (by rfl); (focus (intro W hW; go_simp; exact HasV.val rfl)); simp only [Act.put, List.setIfInBounds_toArray, List.set_cons_zero, List.set_cons_succ])
          refine H.fin ?_
          have hC47 := chg_trans (chg_trans hC5 hC6) hC7
          have hR7 := HR4.out.grow hC47
          have hqb := sq_low HU.out k (by rw [← hSk.out]; exact hS1)
          have hqb2 := sq_low HU.out (k + 1) (by rw [HZS.out]; exact hfit)
          have hml7 := trimL_low (k := 4) hnat7.2.1 hnat7.2.2.1 (by rw [hnat7.2.2.2]; exact pow4 (by rw [HQS.out] at hqb2; omega))
          have hmlm := trimL_low (k := 4) hR7.nat.2.1 hR7.nat.2.2.1 (by rw [hR7.nat.2.2.2]; exact pow4 hqb.2)
          have ha20 := add20_any W7 A2 A7 c2 c7 m m7 hR7.nat.1 hnat7.1 hR7.nat.2.1 hnat7.2.1 hR7.nat.2.2.1 hnat7.2.2.1 (by omega) (by omega) (by rw [hR7.nat.2.2.2, hnat7.2.2.2, ← HQS.out]; exact pow200 (by omega))
          rw [hR7.nat.2.2.2, hnat7.2.2.2, ← HQS.out, ← hn.out] at ha20
          have HA20 := Lib.hid ha20
          have HR7 := Lib.hid hR7
          obtain ⟨n7, hn7⟩ : ∃ n, n = m7.length := ⟨_, rfl⟩
          rw [← hn7] at HA20 ⊢
          clear hm19 hnat5 hnat6 hnat7 hC5 hC6 hC7 hC47 hR7 hqb hqb2 hml5 hml6 hml7 hmlm hxx ha20 p4 hn7 HR4
          go_wp2_with fail
          refine HA20.out.mono ?_
          rintro e8 w8 ⟨v8, m8, rfl, hN8, h3, h4, h5⟩
          obtain ⟨A8, n8, c8, rfl, hn8, hr8⟩ := New.form3 hN8
          have hfar8 : ∀ a, A8 = some a → W7.heap.size ≤ a.block := fun a ha => by subst ha; exact hN8.2.2 a.block rfl
          have hR8 := HR7.out.grow hN8.2.1
          have hR9 : Rf w gz gs x (S + x) 0 0 A8 m8 (sqs (l.take (k + 1))) w8 := ⟨hR8.zero, hR8.sc, ⟨hr8, h3, h4, h5⟩, hR8.chg, fun a ha => by have := hfar8 a ha; have h1 := heap_lt HR7.out.zero; have h2 := heap_lt HR7.out.sc; omega, hR8.ne⟩
          have HREL := Lib.hid (show Hid (n8 = m8.length) ∧ Hid (T = sumU (S + x) (l.drop (k + 1))) ∧ Hid (S + x = sumZ (l.take (k + 1))) ∧ Hid (k + 1 = 0 ∧ x = 0 ∨ 0 < k + 1 ∧ minU (l.getD 0 0) (l.drop 1) = minU x (l.drop (k + 1))) ∧ Hid (Rf w gz gs x (S + x) 0 0 A8 m8 (sqs (l.take (k + 1))) w8) from
            ⟨Lib.hid hn8, HTK2, Lib.hid HZS.out.symm, Lib.hid (.inr ⟨by omega, hmin4.out⟩), Lib.hid hR9⟩)
          clear hN8 h3 h4 h5 hn8 hr8 hfar8 hR8 hR9 HA20 HR7
          go_wp2
          go_roundw
          case rel => exact ⟨k + 1, n8, c8, m8, A8, x, S + x, by omega, by go_num, rfl, by omega, hfit, HREL.out⟩
          case measure => simp [intOf]; omega
        · have hkb : ((k : Int) == 0) = false := by simp; omega
          have hmo : minU (l.getD 0 0) (l.drop 1) = minU mn (l.drop k) := by
            rcases hmn.out with h | h
            · exact absurd h.1 hk00
            · exact h.2
          rw [HD.out, ← HXE.out, minU] at hmo
          by_cases hlt : x < mn
          · rw [if_pos hlt] at hmo
            have hmin4 := Lib.hid hmo
            have hltb : decide (x < mn) = true := decide_eq_true hlt
            clear hmo
            refine wp_region_same (fun W => Chg (fun _ => False) W3 W) (by kernel_rfl) (by kernel_rfl) ((Chg.refl _ _).drew) ?_
            repeat (first | (refine wpDet_skip (by rfl) ?_; simp only [Act.put, List.setIfInBounds_toArray, List.set_cons_zero, List.set_cons_succ]) | (apply wpDet_step (by rfl); (focus (intro W hW; have q1 := chg_cell hW p3 id; have q2 := chg_cell hW d0 id; go_simp; (first | (with_reducible exact HasV.val hW)))); simp only [Act.put, List.setIfInBounds_toArray, List.set_cons_zero, List.set_cons_succ]))
            refine wpDet_nil ?_
            intro W3b hW3b
            have hR3b := HR3.out.grow hW3b
            have p3b := chg_cell hR3b.chg HP0.out id
            have d0b := hR3b.cells.1
            have f0b := frozen_of hR3b.sc 0
            obtain ⟨W4, hW4⟩ : ∃ W, W = W3b.setCell ⟨gs, 0, none⟩ (.int .u64 x) := ⟨_, rfl⟩
            have hR4 := Lib.hid (by have h := hR3b.put (mn' := x) (sm' := S + x) (hi' := 0) (lo' := 0) 0 (.int .u64 x) rfl; rw [← hW4] at h; exact h)
            have HW4 := Lib.hid hW4
            clear hW3b hR3b p3 d0 hW4 hk00 hkb HR3
            go_upto_region 12 with (fail)
            rw [← HW4.out]
            clear p3b d0b f0b HW4
            have hR4' := hR4.out
            have p4 := chg_cell hR4'.chg HP0.out id
            have HR4 := hR4
            clear hR4 hR4'
            go_wp2_with fail
            refine H.wp_region_seq (fun W => W.cell? ⟨g, o + k, none⟩ = some (.int .u64 x)) [(0, 0), (1, 0), (2, 0), (3, 0), (5, 0), (6, 0), (7, 0), (8, 0), (4, 1), (9, 1), (10, 1), (11, 0), (12, 0), (13, 0), (14, 0), (15, 0)] (by kernel_rfl) (by kernel_rfl) (by kernel_rfl) (by exact p4) ?_
            iterate 8 (apply H.look (by rfl) (by rfl); (focus (intro W hW; go_simp; exact HasV.val rfl)); simp only [Act.put, List.setIfInBounds_toArray, List.set_cons_zero, List.set_cons_succ])
            refine H.link (NatR x W4) (by rfl) (by rfl) ?_ (fun v W hR => by obtain ⟨_, _, _, _, _, hC⟩ := hR; exact chg_cell hC p4 id) ?_
            · go_simp
              refine H.HasR.call ((of18_any x _ ⟨hx0, hx1⟩).mono ?_)
              rintro e W ⟨v, m5, rfl, hN, h3, h4, h5⟩
              obtain ⟨A5, n5, c5, rfl, hn5, hr5⟩ := New.form3 hN
              subst hn5
              exact ⟨_, rfl, A5, m5, c5, rfl, ⟨hr5, h3, h4, h5⟩, (Chg.refl (fun _ => False) W4).drew.trans hN.2.1 (fun _ _ => id)⟩
            rintro v W5 ⟨A5, m5, c5, rfl, hnat5, hC5⟩
            simp only [Act.put, List.setIfInBounds_toArray, List.set_cons_zero, List.set_cons_succ]
            refine H.link (NatR x W5) (by rfl) (by rfl) ?_ (fun v W hR => by obtain ⟨_, _, _, _, _, hC⟩ := hR; exact chg_cell hC (chg_cell hC5 p4 id) id) ?_
            · go_simp
              refine H.HasR.call ((of18_any x _ ⟨hx0, hx1⟩).mono ?_)
              rintro e W ⟨v, m6, rfl, hN, h3, h4, h5⟩
              obtain ⟨A6, n6, c6, rfl, hn6, hr6⟩ := New.form3 hN
              subst hn6
              exact ⟨_, rfl, A6, m6, c6, rfl, ⟨hr6, h3, h4, h5⟩, hN.2.1⟩
            rintro v W6 ⟨A6, m6, c6, rfl, hnat6, hC6⟩
            simp only [Act.put, List.setIfInBounds_toArray, List.set_cons_zero, List.set_cons_succ]
            have hml5 := trimL_low (k := 4) hnat5.2.1 hnat5.2.2.1 (by rw [hnat5.2.2.2]; exact pow4 (by omega))
            have hml6 := trimL_low (k := 4) hnat6.2.1 hnat6.2.2.1 (by rw [hnat6.2.2.2]; exact pow4 (by omega))
            have hxx : x * x ≤ 18446744073709551615 * 18446744073709551615 := Int.mul_le_mul (by omega) (by omega) (by omega) (by omega)
            have hm19 := mul19_any W6 A5 A6 c5 c6 m5 m6 (hnat5.1.chg hC6 (fun _ _ => id)) hnat6.1 hnat5.2.1 hnat6.2.1 hnat5.2.2.1 hnat6.2.2.1 (by omega) (by omega) (by rw [hnat5.2.2.2, hnat6.2.2.2]; exact pow200 (by omega))
            rw [hnat5.2.2.2, hnat6.2.2.2] at hm19
            refine H.link (NatR2 (x * x) W6) (by rfl) (by rfl) ?_ (fun v W hR => by obtain ⟨_, _, _, _, _, hC⟩ := hR; exact chg_cell hC (chg_cell hC6 (chg_cell hC5 p4 id) id) id) ?_
            · go_simp
              refine H.HasR.call (hm19.mono ?_)
              rintro e W ⟨v, m7, rfl, hN, h3, h4, h5⟩
              obtain ⟨A7, n7, c7, rfl, hn7, hr7⟩ := New.form3 hN
              subst hn7
              exact ⟨_, rfl, A7, m7, c7, rfl, ⟨hr7, h3, h4, h5⟩, hN.2.1⟩
            rintro v W7 ⟨A7, m7, c7, rfl, hnat7, hC7⟩
            simp only [Act.put, List.setIfInBounds_toArray, List.set_cons_zero, List.set_cons_succ]
            iterate 5 (apply H.look (by rfl) (by rfl); (focus (intro W hW; go_simp; exact HasV.val rfl)); simp only [Act.put, List.setIfInBounds_toArray, List.set_cons_zero, List.set_cons_succ])
            refine H.fin ?_
            have hC47 := chg_trans (chg_trans hC5 hC6) hC7
            have hR7 := HR4.out.grow hC47
            have hqb := sq_low HU.out k (by rw [← hSk.out]; exact hS1)
            have hqb2 := sq_low HU.out (k + 1) (by rw [HZS.out]; exact hfit)
            have hml7 := trimL_low (k := 4) hnat7.2.1 hnat7.2.2.1 (by rw [hnat7.2.2.2]; exact pow4 (by rw [HQS.out] at hqb2; omega))
            have hmlm := trimL_low (k := 4) hR7.nat.2.1 hR7.nat.2.2.1 (by rw [hR7.nat.2.2.2]; exact pow4 hqb.2)
            have ha20 := add20_any W7 A2 A7 c2 c7 m m7 hR7.nat.1 hnat7.1 hR7.nat.2.1 hnat7.2.1 hR7.nat.2.2.1 hnat7.2.2.1 (by omega) (by omega) (by rw [hR7.nat.2.2.2, hnat7.2.2.2, ← HQS.out]; exact pow200 (by omega))
            rw [hR7.nat.2.2.2, hnat7.2.2.2, ← HQS.out, ← hn.out] at ha20
            have HA20 := Lib.hid ha20
            have HR7 := Lib.hid hR7
            obtain ⟨n7, hn7⟩ : ∃ n, n = m7.length := ⟨_, rfl⟩
            rw [← hn7] at HA20 ⊢
            clear hm19 hnat5 hnat6 hnat7 hC5 hC6 hC7 hC47 hR7 hqb hqb2 hml5 hml6 hml7 hmlm hxx ha20 p4 hn7 HR4
            go_wp2_with fail
            refine HA20.out.mono ?_
            rintro e8 w8 ⟨v8, m8, rfl, hN8, h3, h4, h5⟩
            obtain ⟨A8, n8, c8, rfl, hn8, hr8⟩ := New.form3 hN8
            have hfar8 : ∀ a, A8 = some a → W7.heap.size ≤ a.block := fun a ha => by subst ha; exact hN8.2.2 a.block rfl
            have hR8 := HR7.out.grow hN8.2.1
            have hR9 : Rf w gz gs x (S + x) 0 0 A8 m8 (sqs (l.take (k + 1))) w8 := ⟨hR8.zero, hR8.sc, ⟨hr8, h3, h4, h5⟩, hR8.chg, fun a ha => by have := hfar8 a ha; have h1 := heap_lt HR7.out.zero; have h2 := heap_lt HR7.out.sc; omega, hR8.ne⟩
            have HREL := Lib.hid (show Hid (n8 = m8.length) ∧ Hid (T = sumU (S + x) (l.drop (k + 1))) ∧ Hid (S + x = sumZ (l.take (k + 1))) ∧ Hid (k + 1 = 0 ∧ x = 0 ∨ 0 < k + 1 ∧ minU (l.getD 0 0) (l.drop 1) = minU x (l.drop (k + 1))) ∧ Hid (Rf w gz gs x (S + x) 0 0 A8 m8 (sqs (l.take (k + 1))) w8) from
              ⟨Lib.hid hn8, HTK2, Lib.hid HZS.out.symm, Lib.hid (.inr ⟨by omega, hmin4.out⟩), Lib.hid hR9⟩)
            clear hN8 h3 h4 h5 hn8 hr8 hfar8 hR8 hR9 HA20 HR7
            go_wp2
            go_roundw
            case rel => exact ⟨k + 1, n8, c8, m8, A8, x, S + x, by omega, by go_num, rfl, by omega, hfit, HREL.out⟩
            case measure => simp [intOf]; omega
          · rw [if_neg hlt] at hmo
            have hmin4 := Lib.hid hmo
            have hltb : decide (x < mn) = false := decide_eq_false hlt
            clear hmo
            refine wp_region_same (fun W => Chg (fun _ => False) W3 W) (by kernel_rfl) (by kernel_rfl) ((Chg.refl _ _).drew) ?_
            repeat (first | (refine wpDet_skip (by rfl) ?_; simp only [Act.put, List.setIfInBounds_toArray, List.set_cons_zero, List.set_cons_succ]) | (apply wpDet_step (by rfl); (focus (intro W hW; have q1 := chg_cell hW p3 id; have q2 := chg_cell hW d0 id; go_simp; (first | (with_reducible exact HasV.val hW)))); simp only [Act.put, List.setIfInBounds_toArray, List.set_cons_zero, List.set_cons_succ]))
            refine wpDet_nil ?_
            intro W4 hW4
            have hR4 := Lib.hid (HR3.out.grow hW4)
            clear hW4 p3 d0 hk00 hkb HR3
            have hR4' := hR4.out
            have p4 := chg_cell hR4'.chg HP0.out id
            have HR4 := hR4
            clear hR4 hR4'
            go_wp2_with fail
            refine H.wp_region_seq (fun W => W.cell? ⟨g, o + k, none⟩ = some (.int .u64 x)) [(0, 0), (1, 0), (2, 0), (3, 0), (5, 0), (6, 0), (7, 0), (8, 0), (4, 1), (9, 1), (10, 1), (11, 0), (12, 0), (13, 0), (14, 0), (15, 0)] (by kernel_rfl) (by kernel_rfl) (by kernel_rfl) (by exact p4) ?_
            iterate 8 (apply H.look (by rfl) (by rfl); (focus (intro W hW; go_simp; exact HasV.val rfl)); simp only [Act.put, List.setIfInBounds_toArray, List.set_cons_zero, List.set_cons_succ])
            refine H.link (NatR x W4) (by rfl) (by rfl) ?_ (fun v W hR => by obtain ⟨_, _, _, _, _, hC⟩ := hR; exact chg_cell hC p4 id) ?_
            · go_simp
              refine H.HasR.call ((of18_any x _ ⟨hx0, hx1⟩).mono ?_)
              rintro e W ⟨v, m5, rfl, hN, h3, h4, h5⟩
              obtain ⟨A5, n5, c5, rfl, hn5, hr5⟩ := New.form3 hN
              subst hn5
              exact ⟨_, rfl, A5, m5, c5, rfl, ⟨hr5, h3, h4, h5⟩, (Chg.refl (fun _ => False) W4).drew.trans hN.2.1 (fun _ _ => id)⟩
            rintro v W5 ⟨A5, m5, c5, rfl, hnat5, hC5⟩
            simp only [Act.put, List.setIfInBounds_toArray, List.set_cons_zero, List.set_cons_succ]
            refine H.link (NatR x W5) (by rfl) (by rfl) ?_ (fun v W hR => by obtain ⟨_, _, _, _, _, hC⟩ := hR; exact chg_cell hC (chg_cell hC5 p4 id) id) ?_
            · go_simp
              refine H.HasR.call ((of18_any x _ ⟨hx0, hx1⟩).mono ?_)
              rintro e W ⟨v, m6, rfl, hN, h3, h4, h5⟩
              obtain ⟨A6, n6, c6, rfl, hn6, hr6⟩ := New.form3 hN
              subst hn6
              exact ⟨_, rfl, A6, m6, c6, rfl, ⟨hr6, h3, h4, h5⟩, hN.2.1⟩
            rintro v W6 ⟨A6, m6, c6, rfl, hnat6, hC6⟩
            simp only [Act.put, List.setIfInBounds_toArray, List.set_cons_zero, List.set_cons_succ]
            have hml5 := trimL_low (k := 4) hnat5.2.1 hnat5.2.2.1 (by rw [hnat5.2.2.2]; exact pow4 (by omega))
            have hml6 := trimL_low (k := 4) hnat6.2.1 hnat6.2.2.1 (by rw [hnat6.2.2.2]; exact pow4 (by omega))
            have hxx : x * x ≤ 18446744073709551615 * 18446744073709551615 := Int.mul_le_mul (by omega) (by omega) (by omega) (by omega)
            have hm19 := mul19_any W6 A5 A6 c5 c6 m5 m6 (hnat5.1.chg hC6 (fun _ _ => id)) hnat6.1 hnat5.2.1 hnat6.2.1 hnat5.2.2.1 hnat6.2.2.1 (by omega) (by omega) (by rw [hnat5.2.2.2, hnat6.2.2.2]; exact pow200 (by omega))
            rw [hnat5.2.2.2, hnat6.2.2.2] at hm19
            refine H.link (NatR2 (x * x) W6) (by rfl) (by rfl) ?_ (fun v W hR => by obtain ⟨_, _, _, _, _, hC⟩ := hR; exact chg_cell hC (chg_cell hC6 (chg_cell hC5 p4 id) id) id) ?_
            · go_simp
              refine H.HasR.call (hm19.mono ?_)
              rintro e W ⟨v, m7, rfl, hN, h3, h4, h5⟩
              obtain ⟨A7, n7, c7, rfl, hn7, hr7⟩ := New.form3 hN
              subst hn7
              exact ⟨_, rfl, A7, m7, c7, rfl, ⟨hr7, h3, h4, h5⟩, hN.2.1⟩
            rintro v W7 ⟨A7, m7, c7, rfl, hnat7, hC7⟩
            simp only [Act.put, List.setIfInBounds_toArray, List.set_cons_zero, List.set_cons_succ]
            iterate 5 (apply H.look (by rfl) (by rfl); (focus (intro W hW; go_simp; exact HasV.val rfl)); simp only [Act.put, List.setIfInBounds_toArray, List.set_cons_zero, List.set_cons_succ])
            refine H.fin ?_
            have hC47 := chg_trans (chg_trans hC5 hC6) hC7
            have hR7 := HR4.out.grow hC47
            have hqb := sq_low HU.out k (by rw [← hSk.out]; exact hS1)
            have hqb2 := sq_low HU.out (k + 1) (by rw [HZS.out]; exact hfit)
            have hml7 := trimL_low (k := 4) hnat7.2.1 hnat7.2.2.1 (by rw [hnat7.2.2.2]; exact pow4 (by rw [HQS.out] at hqb2; omega))
            have hmlm := trimL_low (k := 4) hR7.nat.2.1 hR7.nat.2.2.1 (by rw [hR7.nat.2.2.2]; exact pow4 hqb.2)
            have ha20 := add20_any W7 A2 A7 c2 c7 m m7 hR7.nat.1 hnat7.1 hR7.nat.2.1 hnat7.2.1 hR7.nat.2.2.1 hnat7.2.2.1 (by omega) (by omega) (by rw [hR7.nat.2.2.2, hnat7.2.2.2, ← HQS.out]; exact pow200 (by omega))
            rw [hR7.nat.2.2.2, hnat7.2.2.2, ← HQS.out, ← hn.out] at ha20
            have HA20 := Lib.hid ha20
            have HR7 := Lib.hid hR7
            obtain ⟨n7, hn7⟩ : ∃ n, n = m7.length := ⟨_, rfl⟩
            rw [← hn7] at HA20 ⊢
            clear hm19 hnat5 hnat6 hnat7 hC5 hC6 hC7 hC47 hR7 hqb hqb2 hml5 hml6 hml7 hmlm hxx ha20 p4 hn7 HR4
            go_wp2_with fail
            refine HA20.out.mono ?_
            rintro e8 w8 ⟨v8, m8, rfl, hN8, h3, h4, h5⟩
            obtain ⟨A8, n8, c8, rfl, hn8, hr8⟩ := New.form3 hN8
            have hfar8 : ∀ a, A8 = some a → W7.heap.size ≤ a.block := fun a ha => by subst ha; exact hN8.2.2 a.block rfl
            have hR8 := HR7.out.grow hN8.2.1
            have hR9 : Rf w gz gs mn (S + x) 0 0 A8 m8 (sqs (l.take (k + 1))) w8 := ⟨hR8.zero, hR8.sc, ⟨hr8, h3, h4, h5⟩, hR8.chg, fun a ha => by have := hfar8 a ha; have h1 := heap_lt HR7.out.zero; have h2 := heap_lt HR7.out.sc; omega, hR8.ne⟩
            have HREL := Lib.hid (show Hid (n8 = m8.length) ∧ Hid (T = sumU (S + x) (l.drop (k + 1))) ∧ Hid (S + x = sumZ (l.take (k + 1))) ∧ Hid (k + 1 = 0 ∧ mn = 0 ∨ 0 < k + 1 ∧ minU (l.getD 0 0) (l.drop 1) = minU mn (l.drop (k + 1))) ∧ Hid (Rf w gz gs mn (S + x) 0 0 A8 m8 (sqs (l.take (k + 1))) w8) from
              ⟨Lib.hid hn8, HTK2, Lib.hid HZS.out.symm, Lib.hid (.inr ⟨by omega, hmin4.out⟩), Lib.hid hR9⟩)
            clear hN8 h3 h4 h5 hn8 hr8 hfar8 hR8 hR9 HA20 HR7
            go_wp2
            go_roundw
            case rel => exact ⟨k + 1, n8, c8, m8, A8, mn, S + x, by omega, by go_num, rfl, by omega, hfit, HREL.out⟩
            case measure => simp [intOf]; omega
      · rw [if_neg hfit] at hTk2 hadd
        have hRe : R = (⟨0, 0, 0, 0⟩, 3) := by rw [HR.out]; unfold scoreOf; rw [← HT0.out, hTk2]; rfl
        have HRE := Lib.hid hRe
        have HADD := Lib.hid hadd
        have p1 := chg_cell hRf.out.chg p0 id
        have d1 := hRf.out.cells.2.1
        clear hx hxe hd hTk2 hzs hqs hTk p0 hadd hRe
        go_wp2_with fail
        refine wp_region_same (fun W => Chg (fun _ => False) wr W) (by kernel_rfl) (by kernel_rfl) ((Chg.refl _ _).drew) ?_
        repeat (first | (refine wpDet_skip (by rfl) ?_; simp only [Act.put, List.setIfInBounds_toArray, List.set_cons_zero, List.set_cons_succ]) | (apply wpDet_step (by rfl); (focus (intro W hW; have q1 := chg_cell hW p1 id; have q2 := chg_cell hW d1 id; go_simp; (first | (with_reducible exact HasV.val hW) | ((with_reducible refine HasV.call (R := fun W' => W = W') (HADD.out W) ?_); exact fun w' h => by subst h; exact hW)))); simp only [Act.put, List.setIfInBounds_toArray, List.set_cons_zero, List.set_cons_succ]))
        refine wpDet_nil ?_
        intro W2 hW2
        have hR2 := hRf.out.grow hW2
        have FZ := Lib.hid (hR2.bad HRE.out)
        obtain ⟨z0, z1, z2, z3⟩ := read4 hR2.zero
        have y0 := frozen_of hR2.zero 0
        have y1 := frozen_of hR2.zero 1
        have y2 := frozen_of hR2.zero 2
        have y3 := frozen_of hR2.zero 3
        clear hW2 p1 d1 hR2
        go_wp2_with fail
        exact bodyPost_ret (v := .tuple #[(⟨0, 0, 0, 0⟩ : Sc).v, .int .i64 3]) (by simp [results, Try.results9, go_sem, Sc.v, z0, z1, z2, z3]) rfl (FZ.out _ (by repeat (first | (with_reducible exact Chg.refl _ _) | (with_reducible refine chg_setg ?_ _ _))))
    · obtain rfl : nl = k := by omega
      have hql := hRf.out
      have hSl := hSk.out
      have hTl := hTk.out
      rw [List.take_of_length_le (by rw [← HNL.out]; exact Nat.le_refl _)] at hql hSl
      rw [List.drop_of_length_le (by rw [← HNL.out]; exact Nat.le_refl _)] at hTl
      have hqb := sq_low HU.out nl (by rw [← hSk.out]; exact hS1)
      rw [List.take_of_length_le (by rw [← HNL.out]; exact Nat.le_refl _)] at hqb
      have hmm : l = [] ∧ mn = 0 ∨ l ≠ [] ∧ minU (l.getD 0 0) (l.drop 1) = mn := by
        rcases hmn.out with h | h
        · exact .inl ⟨List.eq_nil_of_length_eq_zero (by rw [← HNL.out]; exact h.1), h.2⟩
        · refine .inr ⟨by rintro rfl; have := HNL.out; simp at this; omega, ?_⟩
          rw [h.2, List.drop_of_length_le (by rw [← HNL.out]; exact Nat.le_refl _)]
          rfl
      have hsc := score_eq (by rw [← HT0.out]; exact hTl) hSl hmm
      have hml := trimL_low (k := 4) hql.nat.2.1 hql.nat.2.2.1 (by rw [hql.nat.2.2.2]; exact pow4 hqb.2)
      have hv4 := val4 hml
      rw [hql.nat.2.2.2] at hv4
      have b0 := hql.nat.2.1.getD 0
      have b1 := hql.nat.2.1.getD 1
      have b2 := hql.nat.2.1.getD 2
      have b3 := hql.nat.2.1.getD 3
      obtain ⟨hiV, hhi⟩ : ∃ h, h = m.getD 3 0 * 4294967296 + m.getD 2 0 := ⟨_, rfl⟩
      obtain ⟨loV, hlo⟩ : ∃ h, h = m.getD 1 0 * 4294967296 + m.getD 0 0 := ⟨_, rfl⟩
      have e1 : sqs l / 18446744073709551616 = hiV := by omega
      have e2 : sqs l % 18446744073709551616 = loV := by omega
      rw [e1, e2] at hsc
      have HSC := Lib.hid (show R = _ from HR.out.trans hsc)
      have HHI := Lib.hid hhi
      have HLO := Lib.hid hlo
      have HQL := Lib.hid hql
      have hn4 : n ≤ 4 := by have := hn.out; omega
      obtain ⟨W1, hW1⟩ : ∃ W, W = wr.alloc (.cells #[.int .u64 0, .int .u64 0, .int .u64 0, .int .u64 0] 51) := ⟨_, rfl⟩
      obtain ⟨gl, hgl⟩ : ∃ g, g = wr.heap.size := ⟨_, rfl⟩
      have hR1 : Rf w gz gs mn S 0 0 A2 m (sqs l) W1 := by rw [hW1]; exact hql.grow ((Chg.refl _ _).alloc _)
      have hl1 : W1.heap[gl]? = some (sc4 (put4 m 0 0) (put4 m 0 1) (put4 m 0 2) (put4 m 0 3) 51) := by rw [hW1, hgl]; exact heap_alloc_at _ _
      have hgn : gl ≠ gs ∧ gl ≠ gz ∧ w.heap.size ≤ gl ∧ (∀ a, A2 = some a → m ≠ [] → a.block ≠ gl) := by
        refine ⟨fun e => by have := heap_lt hql.sc; omega, fun e => by have := heap_lt hql.zero; omega, by have := hql.chg.size; omega, fun a ha hne e => ?_⟩
        obtain ⟨g', o', h1, h2⟩ := hql.nat.1.plain hne
        rw [ha] at h1
        cases h1
        have := World.block_lt_of_cell? wr _ (h2 0 (List.length_pos_iff.2 hne))
        simp only at this e
        omega
      have HR1 := Lib.hid hR1
      have HL1 := Lib.hid hl1
      have HGN := Lib.hid hgn
      have HW1 := Lib.hid hW1
      have HGL := Lib.hid hgl
      obtain ⟨b00, b01⟩ := b0
      obtain ⟨b10, b11⟩ := b1
      obtain ⟨b20, b21⟩ := b2
      obtain ⟨b30, b31⟩ := b3
      have HB := Lib.hid (And.intro (And.intro b00 b01) (And.intro (And.intro b10 b11) (And.intro (And.intro b20 b21) (And.intro b30 b31))))
      clear hql hSl hTl hqb hmm hsc hml hv4 b00 b01 b10 b11 b20 b21 b30 b31 hhi hlo e1 e2 hW1 hgl hR1 hl1 hgn hTk hSk hmn hRf
      go_upto_region 18 with (fail)
      rw [← HW1.out, ← HGL.out]
      clear HW1 HGL
      go_wp2_with fail
      go_loopw [78] (fun i wr => ∃ j : Nat, j ≤ n ∧ i = .int .i64 j ∧ Hid (Rf w gz gs mn S 0 0 A2 m (sqs l) wr) ∧ Hid (wr.heap[gl]? = some (sc4 (put4 m j 0) (put4 m j 1) (put4 m j 2) (put4 m j 3) 51))) (fun i _ => n - (intOf i).toNat)
      case atStart => exact ⟨0, by omega, rfl, HR1, HL1⟩
      case round =>
        obtain ⟨j, hj, rfl, hRj, hLj⟩ := hrel
        obtain ⟨wo, rfl⟩ : ∃ wo : World, wo = wr := ⟨_, rfl⟩
        by_cases hj2 : j < n
        · obtain ⟨gm, om, rfl, hxm⟩ := hRj.out.nat.1.plain (by rintro rfl; have := hn.out; simp at this; omega)
          have pm := hxm j (by rw [← hn.out]; exact hj2)
          have hyb := hRj.out.nat.2.1.getD j
          obtain ⟨y, hy⟩ : ∃ y, y = m.getD j 0 := ⟨_, rfl⟩
          rw [← hy] at pm hyb
          have hwy : IntKind.u64.wrap y = y := by rw [wrap64u]; omega
          have h4 : j = 0 ∨ j = 1 ∨ j = 2 ∨ j = 3 := by omega
          have hRs : ∀ i, Rf w gz gs mn S 0 0 (some ⟨gm, om, none⟩) m (sqs l) (wo.setCell ⟨gl, i, none⟩ (.int .u64 y)) := fun i => by
            have hc : Chg (fun k => k = gl) wo (wo.setCell ⟨gl, i, none⟩ (.int .u64 y)) := chg_setg (Chg.refl _ _) i _
            have h0 := hRj.out
            have hgn := HGN.out
            refine ⟨chg_kp hc h0.zero (fun e => hgn.2.1 e.symm), chg_kp hc h0.sc (fun e => hgn.1 e.symm), ⟨h0.nat.1.chg hc (fun a ha => hgn.2.2.2 a ha (by rintro rfl; have := hn.out; simp at this; omega)), h0.nat.2⟩, h0.chg.trans hc (fun k hk e => by have := hgn.2.2.1; omega), h0.far, h0.ne⟩
          have HRS := Lib.hid hRs
          have HY := Lib.hid hy
          clear hxm hyb hy hRs
          obtain ⟨l0, l1, l2, l3⟩ := read4 hLj.out
          have y0 := frozen_of hLj.out 0
          have y1 := frozen_of hLj.out 1
          have y2 := frozen_of hLj.out 2
          have y3 := frozen_of hLj.out 3
          rcases h4 with rfl | rfl | rfl | rfl
          · have HLN := Lib.hid (show (wo.setCell ⟨gl, 0, none⟩ (.int .u64 y)).heap[gl]? = some (sc4 (put4 m 1 0) (put4 m 1 1) (put4 m 1 2) (put4 m 1 3) 51) by rw [heap_setCell hLj.out, HY.out]; rfl)
            have HRN := Lib.hid (HRS.out 0)
            clear hRj hLj HRS
            rw [Nat.add_zero] at pm
            go_wp2
            go_roundw
            case rel => exact ⟨1, by omega, by go_num, HRN, HLN⟩
            case measure => simp [intOf]; omega
          · have HLN := Lib.hid (show (wo.setCell ⟨gl, 1, none⟩ (.int .u64 y)).heap[gl]? = some (sc4 (put4 m 2 0) (put4 m 2 1) (put4 m 2 2) (put4 m 2 3) 51) by rw [heap_setCell hLj.out, HY.out]; rfl)
            have HRN := Lib.hid (HRS.out 1)
            clear hRj hLj HRS
            go_wp2
            go_roundw
            case rel => exact ⟨2, by omega, by go_num, HRN, HLN⟩
            case measure => simp [intOf]; omega
          · have HLN := Lib.hid (show (wo.setCell ⟨gl, 2, none⟩ (.int .u64 y)).heap[gl]? = some (sc4 (put4 m 3 0) (put4 m 3 1) (put4 m 3 2) (put4 m 3 3) 51) by rw [heap_setCell hLj.out, HY.out]; rfl)
            have HRN := Lib.hid (HRS.out 2)
            clear hRj hLj HRS
            go_wp2
            go_roundw
            case rel => exact ⟨3, by omega, by go_num, HRN, HLN⟩
            case measure => simp [intOf]; omega
          · have HLN := Lib.hid (show (wo.setCell ⟨gl, 3, none⟩ (.int .u64 y)).heap[gl]? = some (sc4 (put4 m 4 0) (put4 m 4 1) (put4 m 4 2) (put4 m 4 3) 51) by rw [heap_setCell hLj.out, HY.out]; rfl)
            have HRN := Lib.hid (HRS.out 3)
            clear hRj hLj HRS
            go_wp2
            go_roundw
            case rel => exact ⟨4, by omega, by go_num, HRN, HLN⟩
            case measure => simp [intOf]; omega
        · obtain rfl : n = j := by omega
          have hp : ∀ i, put4 m n i = m.getD i 0 := fun i => by
            unfold put4
            split
            · rfl
            · rw [List.getD_eq_getElem?_getD, List.getElem?_eq_none (by rw [← hn.out]; omega)]; rfl
          have hl4 := hLj.out
          rw [hp 0, hp 1, hp 2, hp 3] at hl4
          obtain ⟨hb0, hb1, hb2, hb3⟩ := HB.out
          have ho1 := or_join (m.getD 3 0) (m.getD 2 0) hb3 hb2
          have ho2 := or_join (m.getD 1 0) (m.getD 0 0) hb1 hb0
          rw [← HHI.out] at ho1
          rw [← HLO.out] at ho2
          have hs3 : IntKind.u64.wrap (m.getD 3 0 * 4294967296) = m.getD 3 0 * 4294967296 := by rw [wrap64u]; omega
          have hs1 : IntKind.u64.wrap (m.getD 1 0 * 4294967296) = m.getD 1 0 * 4294967296 := by rw [wrap64u]; omega
          obtain ⟨m0, hm0⟩ : ∃ x, x = m.getD 0 0 := ⟨_, rfl⟩
          obtain ⟨m1, hm1⟩ : ∃ x, x = m.getD 1 0 := ⟨_, rfl⟩
          obtain ⟨m2, hm2⟩ : ∃ x, x = m.getD 2 0 := ⟨_, rfl⟩
          obtain ⟨m3, hm3⟩ : ∃ x, x = m.getD 3 0 := ⟨_, rfl⟩
          rw [← hm0, ← hm1, ← hm2, ← hm3] at hl4
          rw [← hm3, ← hm2] at ho1
          rw [← hm1, ← hm0] at ho2
          rw [← hm3] at hs3
          rw [← hm1] at hs1
          have hRd := hRj.out.grow (Chg.refl _ wo).drew
          have hcc : wo.drew.cell? ⟨gl, 0, none⟩ = some (.int .u64 m0) ∧ wo.drew.cell? ⟨gl, 1, none⟩ = some (.int .u64 m1) ∧ wo.drew.cell? ⟨gl, 2, none⟩ = some (.int .u64 m2) ∧ wo.drew.cell? ⟨gl, 3, none⟩ = some (.int .u64 m3) := read4 hl4
          have hR5 := hRd.put (mn' := mn) (sm' := S) (hi' := hiV) (lo' := 0) 2 (.int .u64 hiV) rfl
          have hR6 := hR5.put (mn' := mn) (sm' := S) (hi' := hiV) (lo' := loV) 3 (.int .u64 loV) rfl
          have d2 := hRj.out.cells.2.2.1
          have d3' := hRj.out.cells.2.2.2
          have fs2 := frozen_of hRj.out.sc 2
          have fs3 := frozen_of hRj.out.sc 3
          have HR6 := Lib.hid hR6
          have hgne : ¬ gl = gs := HGN.out.1
          clear hp hl4 hb0 hb1 hb2 hb3 hm0 hm1 hm2 hm3 hRd hR5 hR6 hLj
          go_upto_region 23 with (fail)
          refine H.wp_region_seq (fun W => W.cell? ⟨gl, 0, none⟩ = some (.int .u64 m0) ∧ W.cell? ⟨gl, 1, none⟩ = some (.int .u64 m1) ∧ W.cell? ⟨gl, 2, none⟩ = some (.int .u64 m2) ∧ W.cell? ⟨gl, 3, none⟩ = some (.int .u64 m3)) [(0, 0), (1, 0), (2, 0), (3, 0), (4, 0), (5, 0), (6, 0), (7, 0), (8, 0), (9, 0), (10, 0), (11, 0), (12, 0), (13, 1), (14, 0), (15, 1)] (by kernel_rfl) (by kernel_rfl) (by kernel_rfl) hcc ?_
          iterate 13 (apply H.look (by rfl) (by rfl); (focus (intro W hW; obtain ⟨q0, q1, q2, q3⟩ := hW; go_simp; exact HasV.val rfl)); simp only [Act.put, List.setIfInBounds_toArray, List.set_cons_zero, List.set_cons_succ])
          refine H.link (fun v W => v = undef ∧ W = wo.drew.setCell ⟨gs, 2, none⟩ (.int .u64 hiV)) (by rfl) (by rfl) ?_ (fun v W hR => by
            rw [hR.2]
            have hc : Chg (fun k => k = gs) wo.drew (wo.drew.setCell ⟨gs, 2, none⟩ (.int .u64 hiV)) := chg_setg (Chg.refl _ _) 2 _
            exact ⟨chg_cell hc hcc.1 hgne, chg_cell hc hcc.2.1 hgne, chg_cell hc hcc.2.2.1 hgne, chg_cell hc hcc.2.2.2 hgne⟩) ?_
          · go_simp
            exact H.HasR.skip ⟨rfl, by first | rfl | (simp only [hs3, ho1]) | (simp only [hs3, ho1]; rfl)⟩
          rintro v W ⟨rfl, rfl⟩
          simp only [Act.put, List.setIfInBounds_toArray, List.set_cons_zero, List.set_cons_succ]
          (apply H.look (by rfl) (by rfl); (focus (intro W hW; go_simp; exact HasV.val rfl)); simp only [Act.put, List.setIfInBounds_toArray, List.set_cons_zero, List.set_cons_succ])
          refine H.final (fun v W => v = undef ∧ W = (wo.drew.setCell ⟨gs, 2, none⟩ (.int .u64 hiV)).setCell ⟨gs, 3, none⟩ (.int .u64 loV)) (by rfl) (by rfl) (by kernel_rfl) ?_ ?_
          · go_simp
            exact H.HasR.skip ⟨rfl, by first | rfl | (simp only [hs1, ho2]) | (simp only [hs1, ho2]; rfl)⟩
          rintro v W ⟨rfl, hW⟩
          rw [← hW] at HR6
          simp only [Act.put, List.setIfInBounds_toArray, List.set_cons_zero, List.set_cons_succ]
          refine H.fin ?_
          clear hW hcc d2 d3' fs2 fs3 ho1 ho2 hs1 hs3 hgne hRj
          have FZ := Lib.hid (HR6.out.good HSC.out)
          obtain ⟨c0, c1', c2', c3⟩ := HR6.out.cells
          obtain ⟨z0, z1, z2, z3⟩ := read4 HR6.out.zero
          have y0 := frozen_of HR6.out.zero 0
          have y1 := frozen_of HR6.out.zero 1
          have y2 := frozen_of HR6.out.zero 2
          have y3 := frozen_of HR6.out.zero 3
          go_wp2
          exact bodyPost_ret (v := .tuple #[(⟨mn, S, hiV, loV⟩ : Sc).v, .int .i64 0]) (by simp [results, Try.results9, go_sem, Sc.v, z0, z1, z2, z3]) rfl (FZ.out _ (by repeat (first | (with_reducible exact Chg.refl _ _) | (with_reducible refine chg_setg ?_ _ _))))
end Go.Proofs.Ytpcebifdlgkccaa
