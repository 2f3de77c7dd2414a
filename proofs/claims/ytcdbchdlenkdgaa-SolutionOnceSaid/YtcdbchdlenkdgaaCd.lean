/- Calls: Decode. -/
import Derived.Test.YtcdbchdlenkdgaaCn
import Derived.Deep.DeepCutAuto
import Derived.Deep.RegionLaw
set_option linter.unusedVariables false
set_option linter.unusedSimpArgs false
namespace Go.Ps
theorem rnums_snoc (m : Int) : ∀ (k : Nat) (s : List Int × Bool), rnums m (k + 1) s = ((rnums m k s).1 ++ [(rnum (rnums m k s).2 m).1], (rnum (rnums m k s).2 m).2)
  | 0, s => by simp [rnums]
  | k + 1, s => by
    rw [rnums, rnums_snoc m k]
    simp [rnums]
theorem rnums_u64 {m : Int} (hm : 0 ≤ m ∧ m ≤ 18446744073709551615) : ∀ (k : Nat) (s : List Int × Bool), Bytes s.1 → ∀ n ∈ (rnums m k s).1, U64' n
  | 0, s, _ => by simp [rnums]
  | k + 1, s, hb => by
    intro n hn
    simp only [rnums, List.mem_cons] at hn
    have hr : U64' (rnum s m).1 ∧ Bytes (rnum s m).2.1 := by
      unfold rnum
      split
      · rcases tk_facts hb with hf | hf
        · exact ⟨hf.2.1, hb.drop _⟩
        · rename_i h; exact ⟨⟨by rw [hf.2.1]; omega, by rw [hf.2.1]; omega⟩, hb.drop _⟩
      · exact ⟨⟨by simp, by simp⟩, hb⟩
    rcases hn with rfl | hn
    · exact hr.1
    · exact rnums_u64 hm k _ hr.2 n hn
end Go.Ps
namespace Go.Proofs.Ytcdbchdlenkdgaa
open Go.RowKit Go.Ps

theorem chg_set_g {g : Nat} {a w : World} (h : Chg (fun k => k = g) a w) (i : Nat) (u : Value) : Chg (fun k => k = g) a (w.setCell ⟨g, i, none⟩ u) := h.setCell (p := ⟨g, i, none⟩) (fun _ => rfl) u
def zero7 : Obj := .cells #[.int .i64 0, .int .i64 0, .int .u64 0, .int .u64 0, .int .u64 0, .slice none 0 0, .slice none 0 0] 60 (0, 0)
def obj7 (k who a b c : Int) (VL VB : Value) : Obj := .cells #[.int .i64 k, .int .i64 who, .int .u64 a, .int .u64 b, .int .u64 c, VL, VB] 60 (0, 0)
theorem heap_at (w : World) (o : Obj) (n : Nat) (h : n = w.heap.size) : (w.alloc o).heap[n]? = some o := by subst h; exact heap_alloc_at w o
/-- What Decode has in memory. -/
structure Dc (w : World) (g0 gr gc : Nat) (s : List Int × Bool) (k who a b c : Int) (VL VB : Value) (list : List Int) (W : World) : Prop where
  rd : Rd W gr w.heap.size s
  cell : W.heap[gc]? = some (obj7 k who a b c VL VB)
  zero : W.heap[g0]? = some zero7
  own : Own W 24 .u64 VL list
  far : ∀ k, VL.ownBlock = some k → k ≠ gr ∧ k ≠ gc ∧ k ≠ g0 ∧ w.heap.size ≤ k
  chg : Chg (fun _ => False) w W
  ne : gr ≠ gc ∧ gr ≠ g0 ∧ gc ≠ g0 ∧ w.heap.size ≤ gr ∧ w.heap.size ≤ gc ∧ w.heap.size ≤ g0
theorem chg_keep {F : Nat → Prop} {w w' : World} (h : Chg F w w') {b : Nat} {o : Obj} (hb : w.heap[b]? = some o) (hF : ¬ F b) : w'.heap[b]? = some o := (h.block b (heap_lt hb) hF).trans hb
theorem Dc.read {w W W' : World} {g0 gr gc : Nat} {s s' : List Int × Bool} {k who a b c : Int} {VL VB : Value} {list : List Int} (h : Dc w g0 gr gc s k who a b c VL VB list W) (hr : Rd W' gr w.heap.size s') (hc : Chg (fun k => k = gr) W W') : Dc w g0 gr gc s' k who a b c VL VB list W' := by
  obtain ⟨n1, n2, n3, n4, n5, n6⟩ := h.ne
  exact ⟨hr, chg_keep hc h.cell (fun e => n1 e.symm), chg_keep hc h.zero (fun e => n2 e.symm), h.own.chg hc (fun k hk => (h.far k hk).1), h.far, h.chg.trans hc (fun k hk e => by omega), h.ne⟩
theorem Rd.chg2 {w w' : World} {g b0 : Nat} {s : List Int × Bool} {F : Nat → Prop} (h : Rd w g b0 s) (hc : Chg F w w') (hg : ¬ F g) (hA : ∀ k, k < b0 → ¬ F k) : Rd w' g b0 s := by
  obtain ⟨A, c, h1, h2, h3, h4, h5, h6⟩ := h
  refine ⟨A, c, chg_keep hc h1 hg, ?_, h3, h4, h5, h6⟩
  by_cases hne : s.1 = []
  · exact fun h => absurd hne h
  · exact h2.chg hc (fun a ha => hA _ (h4.2 hne a ha))
section
variable {w W W' : World} {g0 gr gc : Nat} {s s' : List Int × Bool} {k who a b c : Int} {VL VB : Value} {list : List Int}
/-- A store into the call. -/
theorem Dc.put {k' who' a' b' c' : Int} {VL' VB' : Value} {list' : List Int} (h : Dc w g0 gr gc s k who a b c VL VB list W) (i : Nat) (v : Value) (hv : (#[.int .i64 k, .int .i64 who, .int .u64 a, .int .u64 b, .int .u64 c, VL, VB] : Array Value).setIfInBounds i v = #[.int .i64 k', .int .i64 who', .int .u64 a', .int .u64 b', .int .u64 c', VL', VB'])
    (ho : Own W 24 .u64 VL' list') (hf : ∀ k, VL'.ownBlock = some k → k ≠ gr ∧ k ≠ gc ∧ k ≠ g0 ∧ w.heap.size ≤ k) : Dc w g0 gr gc s k' who' a' b' c' VL' VB' list' (W.setCell ⟨gc, i, none⟩ v) := by
  obtain ⟨n1, n2, n3, n4, n5, n6⟩ := h.ne
  have hc : Chg (fun k => k = gc) W (W.setCell ⟨gc, i, none⟩ v) := (Chg.refl (fun k => k = gc) W).setCell (p := ⟨gc, i, none⟩) (fun _ => rfl) v
  refine ⟨h.rd.chg2 hc n1 (fun k hk e => by omega), ?_, chg_keep hc h.zero (fun e => n3 e.symm), ho.chg hc (fun k hk => (hf k hk).2.1), hf, h.chg.trans hc (fun k hk e => by omega), h.ne⟩
  have := heap_setCell h.cell i v
  rw [this, hv]
  rfl
theorem Dc.grow (h : Dc w g0 gr gc s k who a b c VL VB list W) (hc : Chg (fun _ => False) W W') : Dc w g0 gr gc s k who a b c VL VB list W' :=
  ⟨h.rd.chg hc, chg_heap hc h.cell, chg_heap hc h.zero, h.own.chg hc (fun _ _ => id), h.far, chg_trans h.chg hc, h.ne⟩
theorem Dc.cells (h : Dc w g0 gr gc s k who a b c VL VB list W) : W.cell? ⟨gc, 0, none⟩ = some (.int .i64 k) ∧ W.cell? ⟨gc, 1, none⟩ = some (.int .i64 who) ∧ W.cell? ⟨gc, 2, none⟩ = some (.int .u64 a) ∧ W.cell? ⟨gc, 3, none⟩ = some (.int .u64 b) ∧ W.cell? ⟨gc, 4, none⟩ = some (.int .u64 c) ∧ W.cell? ⟨gc, 5, none⟩ = some VL ∧ W.cell? ⟨gc, 6, none⟩ = some VB := read7 h.cell
theorem Dc.frz (h : Dc w g0 gr gc s k who a b c VL VB list W) (i : Nat) : W.frozen? ⟨gc, i, none⟩ = false := frozen_of h.cell i
/-- A number is read. -/
theorem Dc.num (h : Dc w g0 gr gc s k who a b c VL VB list W) (most : Int) (hm : 0 ≤ most ∧ most ≤ 18446744073709551615) : Calls Try.prog 56 #[.pointer (some ⟨gr, 0, none⟩), .int .u64 most] W (fun e W' => e = .returned (.int .u64 (rnum s most).1) ∧ Dc w g0 gr gc (rnum s most).2 k who a b c VL VB list W' ∧ Chg (fun k => k = gr) W W') :=
  (number56_any W gr w.heap.size s most h.rd hm).mono fun e W' ⟨he, hr, hc⟩ => ⟨he, h.read hr hc, hc⟩
end

theorem Dc.push {w W : World} {g0 gr gc : Nat} {s : List Int × Bool} {k who a b c : Int} {VL VB : Value} {list : List Int} (h : Dc w g0 gr gc s k who a b c VL VB list W) (x : Int) (hl : list.length ≤ 1000) :
    ∃ A' n' c' w7, (Builtin.append_ #[29, 29] 29 #[VL, .slice (some ⟨W.heap.size, 0, none⟩) 1 1]).run Try.prog (W.alloc (.cells #[.int .u64 x] 24)) = .ok (.slice A' n' c') w7 ∧ w7.cell? ⟨gc, 5, none⟩ = some VL ∧ w7.frozen? ⟨gc, 5, none⟩ = false ∧
      Dc w g0 gr gc s k who a b c (.slice A' n' c') VB (list ++ [x]) (w7.setCell ⟨gc, 5, none⟩ (.slice A' n' c')) := by
  obtain ⟨A', c', w7, hrun, ho, hg, hat⟩ := h.own.append1W (P := Try.prog) 29 Try.underlying29 info24 x (by omega) (by omega)
  obtain ⟨n1, n2, n3, n4, n5, n6⟩ := h.ne
  have hc : Chg (fun k => VL.ownBlock = some k) W w7 := (Chg.refl _ W).grown hg (fun k hk _ => hk)
  have fgr : ¬ VL.ownBlock = some gr := fun e => (h.far _ e).1 rfl
  have fgc : ¬ VL.ownBlock = some gc := fun e => (h.far _ e).2.1 rfl
  have fg0 : ¬ VL.ownBlock = some g0 := fun e => (h.far _ e).2.2.1 rfl
  have hcell := chg_keep hc h.cell fgc
  have hD7 : Dc w g0 gr gc s k who a b c VL VB [] w7 → True := fun _ => trivial
  have far' : ∀ q, Value.ownBlock (.slice A' (list.length + 1) c') = some q → q ≠ gr ∧ q ≠ gc ∧ q ≠ g0 ∧ w.heap.size ≤ q := fun q hq => by
    rcases hat q hq with e | e
    · exact h.far q e
    · have h1 := h.rd.lt
      have h2 := heap_lt h.cell
      have h3 := heap_lt h.zero
      exact ⟨by omega, by omega, by omega, by omega⟩
  have hc2 : Chg (fun k => k = gc) w7 (w7.setCell ⟨gc, 5, none⟩ (.slice A' (list.length + 1) c')) := chg_set_g (Chg.refl _ _) 5 _
  refine ⟨A', _, c', w7, hrun, cell_of hcell 5 rfl, frozen_of hcell 5, ?_⟩
  refine ⟨(h.rd.chg2 hc fgr (fun q hq e => by have := (h.far q e).2.2.2; omega)).chg2 hc2 n1 (fun q hq e => by omega), ?_, chg_keep hc2 (chg_keep hc h.zero fg0) (fun e => n3 e.symm), ho.chg hc2 (fun q hq e => (far' q hq).2.1 e), far', (h.chg.trans hc (fun q hq e => by have := (h.far q e).2.2.2; omega)).trans hc2 (fun q hq e => by omega), h.ne⟩
  have := heap_setCell hcell 5 (.slice A' (list.length + 1) c')
  rw [this]
  rfl
/-- The first kk of three numbers are read. -/
def Val (s2 : List Int × Bool) (kk : Nat) (a b c : Int) (s : List Int × Bool) : Prop := rnums mostU kk s2 = ([a, b, c].take kk, s) ∧ (kk ≤ 0 → a = 0) ∧ (kk ≤ 1 → b = 0) ∧ (kk ≤ 2 → c = 0)
theorem Val.zero (s2 : List Int × Bool) : Val s2 0 0 0 0 s2 := ⟨rfl, fun _ => rfl, fun _ => rfl, fun _ => rfl⟩
theorem Val.s0 {s2 s : List Int × Bool} {a b c : Int} (h : Val s2 0 a b c s) : Val s2 1 (rnum s mostU).1 b c (rnum s mostU).2 :=
  ⟨by rw [rnums_snoc, h.1]; rfl, fun h => by omega, fun _ => h.2.2.1 (by omega), fun _ => h.2.2.2 (by omega)⟩
theorem Val.s1 {s2 s : List Int × Bool} {a b c : Int} (h : Val s2 1 a b c s) : Val s2 2 a (rnum s mostU).1 c (rnum s mostU).2 :=
  ⟨by rw [rnums_snoc, h.1]; rfl, fun h => by omega, fun h => by omega, fun _ => h.2.2.2 (by omega)⟩
theorem Val.s2 {s2 s : List Int × Bool} {a b c : Int} (h : Val s2 2 a b c s) : Val s2 3 a b (rnum s mostU).1 (rnum s mostU).2 :=
  ⟨by rw [rnums_snoc, h.1]; rfl, fun h => by omega, fun h => by omega, fun h => by omega⟩
theorem Val.get {s2 s : List Int × Bool} {m : Nat} {a b c : Int} (h : Val s2 m a b c s) (hm : m ≤ 3) : ([a, b, c].take m).getD 0 0 = a ∧ ([a, b, c].take m).getD 1 0 = b ∧ ([a, b, c].take m).getD 2 0 = c := by
  obtain ⟨_, h1, h2, h3⟩ := h
  have : m = 0 ∨ m = 1 ∨ m = 2 ∨ m = 3 := by omega
  rcases this with rfl | rfl | rfl | rfl <;> simp at h1 h2 h3 ⊢ <;> simp [*]
def DecPost (r : C7 × Int) (w : World) (e : Ending) (w' : World) : Prop := ∃ A c B d, e = .returned (.tuple #[cv r.1 A c B d, .int .i64 r.2]) ∧ ReadsI w' .u64 A r.1.list ∧ ReadsI w' .u8 B r.1.bytes ∧ r.1.list.length ≤ c ∧ r.1.bytes.length ≤ d ∧ Chg (fun _ => False) w w'
/-- The end of Decode: what stands in block g0 is handed back. -/
theorem dec_end {w W : World} {g0 gr gc : Nat} {s : List Int × Bool} {k who a b c : Int} {VL : Value} {list : List Int} {B : Option Addr} {d : Nat} {bytes : List Int} (h : Dc w g0 gr gc s k who a b c VL (.slice B bytes.length d) list W) (hB : ReadsI W .u8 B bytes) (hd : bytes.length ≤ d) (hb : ∀ x, B = some x → x.block ≠ g0)
    {r : C7 × Int} (hr : r = (⟨k, who, a, b, c, list, bytes⟩, 0)) : ∃ A cl, VL = .slice A list.length cl ∧ ∀ W', Chg (fun k => k = g0) W W' → DecPost r w (.returned (.tuple #[cv ⟨k, who, a, b, c, list, bytes⟩ A cl B d, .int .i64 0])) W' := by
  obtain ⟨A, cl, hv, hrl, hf, _⟩ := h.own.form
  have hcl : list.length ≤ cl := by
    rcases h.own.2 with ⟨hv', h0⟩ | ⟨g, cap, cur, hv', hbg, hgg, hnc, hcm, hcs, htake⟩
    · rw [hv'] at hv
      simp only [Value.slice.injEq] at hv
      omega
    · rw [hv'] at hv
      simp only [Value.slice.injEq] at hv
      omega
  obtain ⟨n1, n2, n3, n4, n5, n6⟩ := h.ne
  refine ⟨A, cl, hv, fun W' hW' => ⟨A, cl, B, d, by rw [hr], ?_, ?_, by rw [hr]; exact hcl, by rw [hr]; exact hd, h.chg.trans hW' (fun k hk e => by omega)⟩⟩
  · rw [hr]
    exact hrl.chg hW' (fun x hx e => (h.far _ (hf x hx)).2.2.1 e)
  · rw [hr]
    exact hB.chg hW' (fun x hx e => hb x hx e)
theorem dec_zero {w W : World} {g0 gr gc : Nat} {s : List Int × Bool} {k who a b c : Int} {VL VB : Value} {list : List Int} (h : Dc w g0 gr gc s k who a b c VL VB list W) {r : C7 × Int} (hr : r = (c7zero, 2)) : ∀ W', Chg (fun k => k = g0) W W' → DecPost r w (.returned (.tuple #[cv c7zero none 0 none 0, .int .i64 2])) W' := fun W' hW' => by
  obtain ⟨n1, n2, n3, n4, n5, n6⟩ := h.ne
  exact ⟨none, 0, none, 0, by rw [hr], by rw [hr]; exact fun h => absurd rfl h, by rw [hr]; exact fun h => absurd rfl h, by rw [hr]; exact Nat.le_refl _, by rw [hr]; exact Nat.le_refl _, h.chg.trans hW' (fun k hk e => by omega)⟩
theorem decC_bad {l : List Int} (h : (readC l).2.2 = true ∨ 0 < (readC l).2.1.length ∨ formedC (readC l).1 = false) : decC l = (c7zero, 2) := by
  unfold decC
  simp only
  rw [if_pos h]
theorem decC_good {l : List Int} (h1 : (readC l).2.2 = false) (h2 : (readC l).2.1.length = 0) (h3 : formedC (readC l).1 = true) : decC l = ((readC l).1, 0) := by
  unfold decC
  simp only
  rw [if_neg (by rw [h1, h2, h3]; simp)]
theorem size81 : (Try.prog.info? 81).map (·.size) = some 1 := by kernel_rfl
theorem run_cutP (A : Option Addr) (n c j : Nat) (hj : j ≤ c) (W : World) : (Instr.sliceAt 82 (.slice A n c) none (some (.int .i64 j)) none).run Try.prog W = .ok (.slice (cutA A 0 c) j c) W := run_cutH Try.underlying82 size81 A n c j hj W
set_option maxRecDepth 20000 in
set_option maxHeartbeats 4000000 in
theorem decode_any (w : World) (A : Option Addr) (c : Nat) (l : List Int) (hr : ReadsI w .u8 A l) (hb : Bytes l) (hl : l.length ≤ 20000000000) (hcap : l.length ≤ c) (hlow : l ≠ [] → ∀ a, A = some a → a.block < w.heap.size) : Calls Try.prog 42 #[.slice A l.length c] w (DecPost (decC l) w) := by
  -- the reader, made
  have hz := heap_alloc_ne (o := .cells #[.slice A l.length c, .bool false] 90) (heap_alloc_at w zero7)
  have hrd : Rd ((w.alloc zero7).alloc (.cells #[.slice A l.length c, .bool false] 90)) (w.heap.size + 1) w.heap.size (l, false) :=
    ⟨A, c, heap_at _ _ _ (by simp), hr.chg (((Chg.refl (fun _ => False) w).alloc _).alloc _) (fun _ _ => id), hcap, ⟨by omega, hlow⟩, hb, hl⟩
  have hC0 : Chg (fun _ => False) w ((w.alloc zero7).alloc (.cells #[.slice A l.length c, .bool false] 90)) := ((Chg.refl _ w).alloc _).alloc _
  have hsz0 : ((w.alloc zero7).alloc (.cells #[.slice A l.length c, .bool false] 90)).heap.size = w.heap.size + 2 := by simp
  unfold zero7 at hz hrd hC0 hsz0
  -- what is read
  obtain ⟨⟨k, s1⟩, e1⟩ : ∃ r, r = rnum (l, false) 16 := ⟨_, rfl⟩
  have k1 := rnum_range (s := (l, false)) hb (m := 16) (by omega)
  rw [← e1] at k1
  obtain ⟨k1a, k1b, hb1⟩ := k1
  simp only at k1a k1b hb1
  obtain ⟨⟨who, s2⟩, e2⟩ : ∃ r, r = rnum s1 2147483647 := ⟨_, rfl⟩
  have k2 := rnum_range hb1 (m := 2147483647) (by omega)
  rw [← e2] at k2
  obtain ⟨k2a, k2b, hb2⟩ := k2
  simp only at k2a k2b hb2
  obtain ⟨m, hm⟩ : ∃ m, m = nums k := ⟨_, rfl⟩
  have hm3 := nums_le k
  have hn := fun W => numbers_any k W
  rw [← hm] at hm3 hn
  have E1 := Lib.hid e1
  have E2 := Lib.hid e2
  have HM := Lib.hid hm
  have HN := Lib.hid hn
  clear hr hlow e1 e2 hm hn
  go_enter Try.func42, Try.ntmps42
  go_wp2_with fail
  obtain ⟨W0, hW0⟩ : ∃ W0, W0 = ((w.alloc (.cells #[.int .i64 0, .int .i64 0, .int .u64 0, .int .u64 0, .int .u64 0, .slice none 0 0, .slice none 0 0] 60)).alloc (.cells #[.slice A l.length c, .bool false] 90)) := ⟨_, rfl⟩
  rw [← hW0] at hz hrd hC0 hsz0 ⊢
  obtain ⟨gr, hgr⟩ : ∃ gr, gr = w.heap.size + 1 := ⟨_, rfl⟩
  rw [← hgr] at hrd ⊢
  obtain ⟨g0, hg0⟩ : ∃ g, g = w.heap.size := ⟨_, rfl⟩
  rw [← hg0] at hz ⊢
  have hne : gr ≠ g0 ∧ w.heap.size ≤ gr ∧ w.heap.size ≤ g0 ∧ gr < W0.heap.size ∧ g0 < W0.heap.size := by omega
  have HNE := Lib.hid hne
  have HZ := Lib.hid hz
  have HC0 := Lib.hid hC0
  have h56 := number56_any W0 gr w.heap.size (l, false) 16 hrd (by omega)
  rw [← E1.out] at h56
  clear hW0 hgr hg0 hz hC0 hrd hne hsz0
  refine h56.mono ?_
  rintro e1 w1 ⟨rfl, hR1, hC1⟩
  have h56 := number56_any w1 gr w.heap.size s1 2147483647 hR1 (by omega)
  rw [← E2.out] at h56
  have HC1 := Lib.hid hC1
  clear hR1 hC1
  go_wp2_with fail
  refine h56.mono ?_
  rintro e2 w2 ⟨rfl, hR2, hC2⟩
  have hD : Dc w g0 gr w2.heap.size s2 k who 0 0 0 (.slice none 0 0) (.slice none 0 0) [] (w2.alloc (.cells #[.int .i64 k, .int .i64 who, .int .u64 0, .int .u64 0, .int .u64 0, .slice none 0 0, .slice none 0 0] 60)) := by
    obtain ⟨n1, n2, n3, n4, n5⟩ := HNE.out
    have hs1 := HC1.out.size
    have hs2 := hC2.size
    have hz2 := chg_keep hC2 (chg_keep HC1.out HZ.out (fun e => n1 e.symm)) (fun e => n1 e.symm)
    refine ⟨hR2.chg ((Chg.refl _ _).alloc _), heap_alloc_at _ _, heap_alloc_ne hz2, Own.nil _ _ _, (fun k hk => by cases hk), ?_, ⟨by omega, n1, by omega, n2, by have := HC0.out.size; omega, n3⟩⟩
    exact ((HC0.out.trans HC1.out (fun k hk e => by omega)).trans hC2 (fun k hk e => by omega)).alloc _
  have HC20 := Lib.hid (show gr < w2.heap.size by have h1 := HNE.out; have h2 := HC1.out.size; have h3 := hC2.size; omega)
  clear h56 hR2 hC2 HC1 HC0 HZ
  have hgc0 : w.heap.size ≤ w2.heap.size := hD.ne.2.2.2.2.1
  obtain ⟨gc, hgc⟩ : ∃ gc, gc = w2.heap.size := ⟨_, rfl⟩
  obtain ⟨w3, hw3⟩ : ∃ w3, w3 = (w2.alloc (.cells #[.int .i64 k, .int .i64 who, .int .u64 0, .int .u64 0, .int .u64 0, .slice none 0 0, .slice none 0 0] 60)) := ⟨_, rfl⟩
  have H3 := Lib.hid (show w2.heap.size + 1 = w3.heap.size by rw [hw3]; simp)
  have HW3 := Lib.hid hw3
  have HGC := Lib.hid hgc
  have HD := Lib.hid hD
  clear hw3 hgc hD
  go_wp2_with fail
  have hD := HD.out
  have hw3 := HW3.out
  have hgc := HGC.out
  rw [← hw3]
  rw [← hw3] at hD
  rw [← hgc] at hD ⊢
  have hp := heap_at w3 (.cells #[.pointer (some ⟨gc, 2, none⟩), .pointer (some ⟨gc, 3, none⟩), .pointer (some ⟨gc, 4, none⟩)] 81) w3.heap.size rfl
  have hD4 := hD.grow ((Chg.refl _ w3).alloc (.cells #[.pointer (some ⟨gc, 2, none⟩), .pointer (some ⟨gc, 3, none⟩), .pointer (some ⟨gc, 4, none⟩)] 81))
  have HD4 := Lib.hid hD4
  have HP := Lib.hid hp
  clear hD hD4 hp hw3 hgc
  refine (HN.out _).mono ?_
  rintro e4 w4 ⟨rfl, rfl⟩
  go_wp2_with fail
  obtain ⟨W4, hW4⟩ : ∃ W4, W4 = w3.alloc (.cells #[.pointer (some ⟨gc, 2, none⟩), .pointer (some ⟨gc, 3, none⟩), .pointer (some ⟨gc, 4, none⟩)] 81) := ⟨_, rfl⟩
  have hD4 := HD4.out
  have hp := HP.out
  have hgp : w3.heap.size = gc + 1 := by rw [← H3.out, ← HGC.out]
  rw [hgp] at hp
  rw [← hW4] at hD4 hp ⊢
  have hgp2 : gc + 1 ≠ gr ∧ gc + 1 ≠ gc := ⟨by have := HNE.out; have := HGC.out; have := HC20.out; omega, by omega⟩
  have HD := Lib.hid hD4
  have HP4 := Lib.hid hp
  have HG2 := Lib.hid hgp2
  clear hD4 hp hW4 hgp HD4 HP H3 HGC HW3 hgp2
  go_loopw [28] (fun i wr => ∃ (kk : Nat) (a b c : Int) (s : List Int × Bool), kk ≤ m ∧ i = .int .i64 kk ∧ Dc w g0 gr gc s k who a b c (.slice none 0 0) (.slice none 0 0) [] wr ∧ Val s2 kk a b c s ∧ wr.heap[gc + 1]? = some (.cells #[.pointer (some ⟨gc, 2, none⟩), .pointer (some ⟨gc, 3, none⟩), .pointer (some ⟨gc, 4, none⟩)] 81 (0, 0))) (fun i _ => m - (intOf i).toNat)
  case atStart => exact ⟨0, 0, 0, 0, s2, by omega, rfl, HD.out, Val.zero s2, HP4.out⟩
  case round =>
    obtain ⟨kk, a, b, cc, s, hkk, rfl, hD, hV, hp⟩ := hrel
    have hnum := hD.num mostU (by unfold mostU; omega)
    by_cases hk2 : kk < m
    · have h3 : kk = 0 ∨ kk = 1 ∨ kk = 2 := by omega
      have p0 : wr.cell? ⟨gc + 1, 0, none⟩ = some (.pointer (some ⟨gc, 2, none⟩)) := cell_of hp 0 rfl
      have p1 : wr.cell? ⟨gc + 1, 1, none⟩ = some (.pointer (some ⟨gc, 3, none⟩)) := cell_of hp 1 rfl
      have p2 : wr.cell? ⟨gc + 1, 2, none⟩ = some (.pointer (some ⟨gc, 4, none⟩)) := cell_of hp 2 rfl
      rcases h3 with rfl | rfl | rfl
      · have hV' := hV.s0
        clear hV p1 p2
        obtain ⟨⟨n, s'⟩, hr⟩ : ∃ r, r = rnum s mostU := ⟨_, rfl⟩
        rw [← hr] at hV' hnum
        have HV := Lib.hid hV'
        have HP' := Lib.hid hp
        clear hr hV' hp hD
        go_wp2_with fail
        refine hnum.mono ?_
        rintro e6 w6 ⟨rfl, hD6, hC6⟩
        have hp6 := chg_keep hC6 HP'.out HG2.out.1
        have hD7 := hD6.put (k' := k) (who' := who) (a' := n) (b' := b) (c' := cc) (VL' := .slice none 0 0) (VB' := .slice none 0 0) (list' := []) 2 (.int .u64 n) rfl (Own.nil _ _ _) (fun k hk => by cases hk)
        have hp7 : (w6.setCell ⟨gc, 2, none⟩ (.int .u64 n)).heap[gc + 1]? = _ := (heap_setCell_ne HG2.out.2 _).trans hp6
        obtain ⟨c0, c1, c2, c3, c4, c5, c6⟩ := hD6.cells
        have f := hD6.frz 2
        have H7 := Lib.hid hD7
        have HP7 := Lib.hid hp7
        clear hD6 hC6 hp6 hD7 hp7 hnum
        go_wp2
        go_roundw
        case rel => exact ⟨1, n, b, cc, s', by omega, rfl, H7.out, HV.out, HP7.out⟩
        case measure => simp [intOf]; omega
      · have hV' := hV.s1
        clear hV p0 p2
        obtain ⟨⟨n, s'⟩, hr⟩ : ∃ r, r = rnum s mostU := ⟨_, rfl⟩
        rw [← hr] at hV' hnum
        have HV := Lib.hid hV'
        have HP' := Lib.hid hp
        clear hr hV' hp hD
        go_wp2_with fail
        refine hnum.mono ?_
        rintro e6 w6 ⟨rfl, hD6, hC6⟩
        have hp6 := chg_keep hC6 HP'.out HG2.out.1
        have hD7 := hD6.put (k' := k) (who' := who) (a' := a) (b' := n) (c' := cc) (VL' := .slice none 0 0) (VB' := .slice none 0 0) (list' := []) 3 (.int .u64 n) rfl (Own.nil _ _ _) (fun k hk => by cases hk)
        have hp7 : (w6.setCell ⟨gc, 3, none⟩ (.int .u64 n)).heap[gc + 1]? = _ := (heap_setCell_ne HG2.out.2 _).trans hp6
        obtain ⟨c0, c1, c2, c3, c4, c5, c6⟩ := hD6.cells
        have f := hD6.frz 3
        have H7 := Lib.hid hD7
        have HP7 := Lib.hid hp7
        clear hD6 hC6 hp6 hD7 hp7 hnum
        go_wp2
        go_roundw
        case rel => exact ⟨2, a, n, cc, s', by omega, rfl, H7.out, HV.out, HP7.out⟩
        case measure => simp [intOf]; omega
      · have hV' := hV.s2
        clear hV p0 p1
        obtain ⟨⟨n, s'⟩, hr⟩ : ∃ r, r = rnum s mostU := ⟨_, rfl⟩
        rw [← hr] at hV' hnum
        have HV := Lib.hid hV'
        have HP' := Lib.hid hp
        clear hr hV' hp hD
        go_wp2_with fail
        refine hnum.mono ?_
        rintro e6 w6 ⟨rfl, hD6, hC6⟩
        have hp6 := chg_keep hC6 HP'.out HG2.out.1
        have hD7 := hD6.put (k' := k) (who' := who) (a' := a) (b' := b) (c' := n) (VL' := .slice none 0 0) (VB' := .slice none 0 0) (list' := []) 4 (.int .u64 n) rfl (Own.nil _ _ _) (fun k hk => by cases hk)
        have hp7 : (w6.setCell ⟨gc, 4, none⟩ (.int .u64 n)).heap[gc + 1]? = _ := (heap_setCell_ne HG2.out.2 _).trans hp6
        obtain ⟨c0, c1, c2, c3, c4, c5, c6⟩ := hD6.cells
        have f := hD6.frz 4
        have H7 := Lib.hid hD7
        have HP7 := Lib.hid hp7
        clear hD6 hC6 hp6 hD7 hp7 hnum
        go_wp2
        go_roundw
        case rel => exact ⟨3, a, b, n, s', by omega, rfl, H7.out, HV.out, HP7.out⟩
        case measure => simp [intOf]; omega
    · have hkm : kk = m := by omega
      subst hkm
      have hg := hV.get hm3
      have hread : readC l = (let r4 := if k = 6 then (let n := rnum s 8; rnums mostU n.1.toNat n.2) else ([], s); let r5 := if k = 10 then rbytes r4.2 else ([], r4.2); (⟨k, who, a, b, cc, r4.1, r5.1⟩, r5.2)) := by
        unfold readC
        rw [← E1.out]
        simp only
        rw [← E2.out]
        simp only
        rw [← HM.out, hV.1]
        simp only
        rw [hg.1, hg.2.1, hg.2.2]
      obtain ⟨c0, c1', c2, c3, c4, c5, c6⟩ := hD.cells
      have HRE := Lib.hid hread
      have HD := Lib.hid hD
      have HNUM := Lib.hid hnum
      clear hg hread hV hD hp hnum
      by_cases k6 : k = 6
      · subst k6
        have h8 := rnum_range (s := s) (by obtain ⟨A1, c1, _, _, _, _, h5, _⟩ := HD.out.rd; exact h5) (m := 8) (by omega)
        obtain ⟨⟨n, s4⟩, hr4⟩ : ∃ r, r = rnum s 8 := ⟨_, rfl⟩
        have h56 := HD.out.num 8 (by omega)
        rw [← hr4] at h8 h56
        obtain ⟨h8a, h8b, _⟩ := h8
        simp only at h8a h8b h56
        obtain ⟨N, rfl⟩ : ∃ N : Nat, n = (N : Int) := ⟨n.toNat, by omega⟩
        have hx : readC l = (⟨6, who, a, b, cc, (rnums mostU N s4).1, []⟩, (rnums mostU N s4).2) := by
          rw [HRE.out]
          simp only [if_pos, ← hr4, Int.toNat_natCast, show ¬ (6 : Int) = 10 by decide, if_false]
        have HXX := Lib.hid hx
        have H56 := Lib.hid h56
        clear hx hr4 h56 HRE HNUM HP4 HM E1 E2
        go_wp2_with fail
        refine H56.out.mono ?_
        rintro e6 w6 ⟨rfl, hD6, hC6⟩
        have HD6 := Lib.hid hD6
        clear hD6 hC6 HD H56 c0 c1' c2 c3 c4 c5 c6
        go_wp2_with fail
        go_loopw [8] (fun i wr => ∃ (j : Nat) (VL : Value) (ls : List Int) (s5 : List Int × Bool), j ≤ N ∧ i = .int .u64 ((N : Int) - j) ∧ rnums mostU j s4 = (ls, s5) ∧ Dc w g0 gr gc s5 6 who a b cc VL (.slice none 0 0) ls wr) (fun i _ => (intOf i).toNat)
        case atStart => exact ⟨0, _, [], s4, by omega, by simp, rfl, HD6.out⟩
        case round =>
          obtain ⟨j, VL, ls, s5, hj, rfl, hrs, hD⟩ := hrel
          by_cases hj2 : j < N
          · have hjI : (0 : Int) < (N : Int) - j := by omega
            have hjI2 : (N : Int) - j ≤ 8 := by omega
            have hls : ls.length = j := by have := rnums_length mostU j s4; rw [hrs] at this; exact this
            obtain ⟨⟨x, s6⟩, hxe⟩ : ∃ r, r = rnum s5 mostU := ⟨_, rfl⟩
            have hrs2 : rnums mostU (j + 1) s4 = (ls ++ [x], s6) := by rw [rnums_snoc, hrs]; simp only [← hxe]
            obtain ⟨c0, c1', c2, c3, c4, c5, c6⟩ := hD.cells
            have f5 := hD.frz 5
            have hnum := (hD.grow ((Chg.refl _ wr).drew)).num mostU (by unfold mostU; omega)
            rw [← hxe] at hnum
            simp only at hnum
            unfold mostU at hnum
            have HRS := Lib.hid hrs2
            have hlsb : ls.length ≤ 1000 := by omega
            clear hxe hrs hrs2 hD hls
            go_wp2_with fail
            go_region_law (first | (refine step_append_run rfl _ _ 29 rfl _ _ _ _ rfl rfl hrun ?_) | (go_simp; go_at_call 56; (with_reducible refine hnum.mono ?_); rintro e7 w7 ⟨rfl, hD7, hC7⟩; obtain ⟨q0, q1, q2, q3, q4, q5, q6⟩ := hD7.cells; have q5' : (w7.alloc (.cells #[.int .u64 x] 24)).cell? ⟨gc, 5, none⟩ = some VL := cell_of (heap_alloc_ne hD7.cell) 5 rfl; obtain ⟨A8, n8, c8, w8, hrun, hv5, hf5, hD8⟩ := hD7.push x hlsb; clear hC7))
            all_goals
              have H8 := Lib.hid hD8
              clear hD8 hD7 hv5 hf5 hrun hnum q0 q1 q2 q3 q4 q5 q6 q5' c0 c1' c2 c3 c4 c5 c6 f5
              go_wp2
              go_roundw
              case rel => exact ⟨j + 1, .slice A8 n8 c8, ls ++ [x], s6, by omega, by go_num, HRS.out, H8.out⟩
              case measure => simp [intOf]; omega
          · have hjn : j = N := by omega
            subst hjn
            rw [Int.sub_self]
            obtain ⟨W5, hW5⟩ : ∃ W5, W5 = wr := ⟨_, rfl⟩
            subst hW5
            have hx := HXX.out
            rw [hrs] at hx
            have gen : ∃ (VL : Value) (ls : List Int) (B5 : Option Addr) (d5 : Nat) (bs : List Int) (s5 : List Int × Bool), Dc w g0 gr gc s5 6 who a b cc VL (.slice B5 bs.length d5) ls W5 ∧ ReadsI W5 .u8 B5 bs ∧ bs.length ≤ d5 ∧ (∀ x, B5 = some x → x.block ≠ g0) ∧ readC l = (⟨6, who, a, b, cc, ls, bs⟩, s5) := ⟨VL, ls, none, 0, [], s5, hD, fun h => absurd rfl h, Nat.le_refl _, (fun x hx => by cases hx), hx⟩
            clear hx hD HD6 hrs HXX
            obtain ⟨VL, ls, B5, d5, bs, s5, hD, hB5, hd5, hbb, hx⟩ := gen
            have HX := Lib.hid hx
            clear hx
            obtain ⟨A1, c1, q1, q2, q3, q4, q5, q6⟩ := hD.rd
            have r0 : W5.cell? ⟨gr, 0, none⟩ = some (.slice A1 s5.1.length c1) := cell_of q1 0 rfl
            have r1 : W5.cell? ⟨gr, 1, none⟩ = some (.bool s5.2) := cell_of q1 1 rfl
            obtain ⟨z0, z1, z2, z3, z4, z5, z6⟩ := read7 hD.zero
            have y0 := frozen_of hD.zero 0
            have y1 := frozen_of hD.zero 1
            have y2 := frozen_of hD.zero 2
            have y3 := frozen_of hD.zero 3
            have y4 := frozen_of hD.zero 4
            have y5 := frozen_of hD.zero 5
            have y6 := frozen_of hD.zero 6
            obtain ⟨c0, c1', c2, c3, c4, c5, c6⟩ := hD.cells
            have HDD := Lib.hid hD
            have HBB := Lib.hid (And.intro hB5 (And.intro hd5 hbb))
            obtain ⟨n5, hn5⟩ : ∃ n, n = s5.1.length := ⟨_, rfl⟩
            rw [← hn5] at r0
            have HN5 := Lib.hid hn5
            clear hD hB5 hd5 hbb q1 q2 q3 q4 q5 q6 hn5
            cases hs5 : s5.2 with
            | true =>
              rw [hs5] at r1
              have fz := dec_zero HDD.out (decC_bad (l := l) (by rw [HX.out]; exact Or.inl hs5))
              have FZ := Lib.hid fz
              clear fz
              go_wp2
              exact bodyPost_ret (v := .tuple #[cv c7zero none 0 none 0, .int .i64 2]) (by simp [results, Try.results42, go_sem, cv, c7zero, z0, z1, z2, z3, z4, z5, z6]) rfl (FZ.out _ (by repeat (first | (with_reducible exact Chg.refl _ _) | (with_reducible refine chg_set_g ?_ _ _))))
            | false =>
              rw [hs5] at r1
              by_cases h0 : 0 < n5
              · have h0i : decide ((0 : Int) < (n5 : Int)) = true := decide_eq_true (by omega)
                have fz := dec_zero HDD.out (decC_bad (l := l) (by rw [HX.out]; exact Or.inr (Or.inl (by rw [HN5.out] at h0; exact h0))))
                have FZ := Lib.hid fz
                clear fz
                go_wp2
                exact bodyPost_ret (v := .tuple #[cv c7zero none 0 none 0, .int .i64 2]) (by simp [results, Try.results42, go_sem, cv, c7zero, z0, z1, z2, z3, z4, z5, z6]) rfl (FZ.out _ (by repeat (first | (with_reducible exact Chg.refl _ _) | (with_reducible refine chg_set_g ?_ _ _))))
              · obtain rfl : n5 = 0 := by omega
                obtain ⟨AL, cL, hvl, _⟩ := HDD.out.own.form
                have hcW := HDD.out
                subst hvl
                have hfo := formed_any ⟨6, who, a, b, cc, ls, bs⟩ AL cL B5 d5 W5
                unfold BoolPost cv at hfo
                simp only at hfo
                cases hfm : formedC ⟨6, who, a, b, cc, ls, bs⟩ with
                | false =>
                  rw [hfm] at hfo
                  have FM := Lib.hid hfm
                  clear hfm hcW h0
                  go_wp2_with fail
                  refine hfo.mono ?_
                  rintro e7 w7 ⟨rfl, hC7⟩
                  have hD7 := HDD.out.grow hC7
                  obtain ⟨z0, z1, z2, z3, z4, z5, z6⟩ := read7 hD7.zero
                  have y0 := frozen_of hD7.zero 0
                  have y1 := frozen_of hD7.zero 1
                  have y2 := frozen_of hD7.zero 2
                  have y3 := frozen_of hD7.zero 3
                  have y4 := frozen_of hD7.zero 4
                  have y5 := frozen_of hD7.zero 5
                  have y6 := frozen_of hD7.zero 6
                  have fz := dec_zero hD7 (decC_bad (l := l) (by rw [HX.out]; exact Or.inr (Or.inr FM.out)))
                  have FZ := Lib.hid fz
                  clear fz hfo hD7 hC7
                  go_wp2
                  exact bodyPost_ret (v := .tuple #[cv c7zero none 0 none 0, .int .i64 2]) (by simp [results, Try.results42, go_sem, cv, c7zero, z0, z1, z2, z3, z4, z5, z6]) rfl (FZ.out _ (by repeat (first | (with_reducible exact Chg.refl _ _) | (with_reducible refine chg_set_g ?_ _ _))))
                | true =>
                  rw [hfm] at hfo
                  have FM := Lib.hid hfm
                  clear hfm hcW h0
                  go_wp2_with fail
                  refine hfo.mono ?_
                  rintro e7 w7 ⟨rfl, hC7⟩
                  have hD7 := HDD.out.grow hC7
                  obtain ⟨z0, z1, z2, z3, z4, z5, z6⟩ := read7 hD7.zero
                  obtain ⟨c0, c1', c2, c3, c4, c5, c6⟩ := hD7.cells
                  have y0 := frozen_of hD7.zero 0
                  have y1 := frozen_of hD7.zero 1
                  have y2 := frozen_of hD7.zero 2
                  have y3 := frozen_of hD7.zero 3
                  have y4 := frozen_of hD7.zero 4
                  have y5 := frozen_of hD7.zero 5
                  have y6 := frozen_of hD7.zero 6
                  obtain ⟨AL2, cL2, hvl2, fe⟩ := dec_end hD7 (HBB.out.1.chg hC7 (fun _ _ => id)) HBB.out.2.1 HBB.out.2.2 (r := decC l) (by rw [decC_good (by rw [HX.out]; exact hs5) (by rw [HX.out]; exact HN5.out.symm) (by rw [HX.out]; exact FM.out), HX.out])
                  simp only [Value.slice.injEq] at hvl2; obtain ⟨rfl, _, rfl⟩ := hvl2
                  have FE := Lib.hid fe
                  clear fe hfo hD7 hC7
                  go_wp2
                  exact bodyPost_ret (v := .tuple #[cv ⟨6, who, a, b, cc, ls, bs⟩ AL cL B5 d5, .int .i64 0]) (by simp [results, Try.results42, go_sem, cv, z0, z1, z2, z3, z4, z5, z6]) rfl (FE.out _ (by repeat (first | (with_reducible exact Chg.refl _ _) | (with_reducible refine chg_set_g ?_ _ _))))
      · by_cases k10 : k = 10
        · subst k10
          have hx : readC l = (⟨10, who, a, b, cc, [], (rbytes s).1⟩, (rbytes s).2) := by rw [HRE.out]; simp only [if_neg k6, if_pos]
          have h57 := bytes57_any wr gr w.heap.size s HD.out.rd
          have f6 := HD.out.frz 6
          have HXX := Lib.hid hx
          have H57 := Lib.hid h57
          clear h57 hx HRE HNUM k6 HP4 HM E1 E2
          go_wp2_with fail
          refine H57.out.mono ?_
          rintro e6 w6 ⟨v6, rfl, hO, hR, hC, hfr⟩
          have hD6 := HD.out.read hR hC
          obtain ⟨B5, d5, rfl, hrB, hBo, _⟩ := hO.form
          have hbd : (rbytes s).1.length ≤ d5 := by
            rcases hO.2 with ⟨hv', h0⟩ | ⟨g, cap, cur, hv', hbg, hgg, hnc, hcm, hcs, htake⟩
            · simp only [Value.slice.injEq] at hv'
              omega
            · simp only [Value.slice.injEq] at hv'
              omega
          have hlt : gc < wr.heap.size ∧ g0 < wr.heap.size := ⟨heap_lt HD.out.cell, heap_lt HD.out.zero⟩
          have hD7 := hD6.put (k' := 10) (who' := who) (a' := a) (b' := b) (c' := cc) (VL' := .slice none 0 0) (VB' := .slice B5 (rbytes s).1.length d5) (list' := []) 6 (.slice B5 (rbytes s).1.length d5) rfl (Own.nil _ _ _) (fun k hk => by cases hk)
          have hrB7 : ReadsI (w6.setCell ⟨gc, 6, none⟩ (.slice B5 (rbytes s).1.length d5)) .u8 B5 (rbytes s).1 := hrB.chg (chg_set_g (Chg.refl (fun k => k = gc) w6) 6 _) (fun x hx e => by have := hfr _ (hBo x hx); omega)
          have hbb : ∀ x, B5 = some x → x.block ≠ g0 := fun x hx e => by have := hfr _ (hBo x hx); omega
          obtain ⟨c0, c1', c2, c3, c4, c5, c6⟩ := hD6.cells
          have f6 := hD6.frz 6
          have H7 := Lib.hid (And.intro hD7 (And.intro hrB7 (And.intro hbd hbb)))
          clear hO hR hC hfr hD6 hrB hBo hlt hD7 hrB7 hbd hbb
          go_upto_region 16 with (fail)
          obtain ⟨W5, hW5⟩ : ∃ W5, W5 = w6.setCell ⟨gc, 6, none⟩ (.slice B5 (rbytes s).1.length d5) := ⟨_, rfl⟩
          have gen : ∃ (VL : Value) (ls : List Int) (B5 : Option Addr) (d5 : Nat) (bs : List Int) (s5 : List Int × Bool), Dc w g0 gr gc s5 10 who a b cc VL (.slice B5 bs.length d5) ls W5 ∧ ReadsI W5 .u8 B5 bs ∧ bs.length ≤ d5 ∧ (∀ x, B5 = some x → x.block ≠ g0) ∧ readC l = (⟨10, who, a, b, cc, ls, bs⟩, s5) := ⟨_, [], B5, d5, _, _, by rw [hW5]; exact H7.out.1, by rw [hW5]; exact H7.out.2.1, H7.out.2.2.1, H7.out.2.2.2, HXX.out⟩
          rw [← hW5]
          clear hW5 H7 HXX HD f6 c0 c1' c2 c3 c4 c5 c6
          obtain ⟨VL, ls, B5, d5, bs, s5, hD, hB5, hd5, hbb, hx⟩ := gen
          have HX := Lib.hid hx
          clear hx
          obtain ⟨A1, c1, q1, q2, q3, q4, q5, q6⟩ := hD.rd
          have r0 : W5.cell? ⟨gr, 0, none⟩ = some (.slice A1 s5.1.length c1) := cell_of q1 0 rfl
          have r1 : W5.cell? ⟨gr, 1, none⟩ = some (.bool s5.2) := cell_of q1 1 rfl
          obtain ⟨z0, z1, z2, z3, z4, z5, z6⟩ := read7 hD.zero
          have y0 := frozen_of hD.zero 0
          have y1 := frozen_of hD.zero 1
          have y2 := frozen_of hD.zero 2
          have y3 := frozen_of hD.zero 3
          have y4 := frozen_of hD.zero 4
          have y5 := frozen_of hD.zero 5
          have y6 := frozen_of hD.zero 6
          obtain ⟨c0, c1', c2, c3, c4, c5, c6⟩ := hD.cells
          have HDD := Lib.hid hD
          have HBB := Lib.hid (And.intro hB5 (And.intro hd5 hbb))
          obtain ⟨n5, hn5⟩ : ∃ n, n = s5.1.length := ⟨_, rfl⟩
          rw [← hn5] at r0
          have HN5 := Lib.hid hn5
          clear hD hB5 hd5 hbb q1 q2 q3 q4 q5 q6 hn5
          cases hs5 : s5.2 with
          | true =>
            rw [hs5] at r1
            have fz := dec_zero HDD.out (decC_bad (l := l) (by rw [HX.out]; exact Or.inl hs5))
            have FZ := Lib.hid fz
            clear fz
            go_wp2
            exact bodyPost_ret (v := .tuple #[cv c7zero none 0 none 0, .int .i64 2]) (by simp [results, Try.results42, go_sem, cv, c7zero, z0, z1, z2, z3, z4, z5, z6]) rfl (FZ.out _ (by repeat (first | (with_reducible exact Chg.refl _ _) | (with_reducible refine chg_set_g ?_ _ _))))
          | false =>
            rw [hs5] at r1
            by_cases h0 : 0 < n5
            · have h0i : decide ((0 : Int) < (n5 : Int)) = true := decide_eq_true (by omega)
              have fz := dec_zero HDD.out (decC_bad (l := l) (by rw [HX.out]; exact Or.inr (Or.inl (by rw [HN5.out] at h0; exact h0))))
              have FZ := Lib.hid fz
              clear fz
              go_wp2
              exact bodyPost_ret (v := .tuple #[cv c7zero none 0 none 0, .int .i64 2]) (by simp [results, Try.results42, go_sem, cv, c7zero, z0, z1, z2, z3, z4, z5, z6]) rfl (FZ.out _ (by repeat (first | (with_reducible exact Chg.refl _ _) | (with_reducible refine chg_set_g ?_ _ _))))
            · obtain rfl : n5 = 0 := by omega
              obtain ⟨AL, cL, hvl, _⟩ := HDD.out.own.form
              have hcW := HDD.out
              subst hvl
              have hfo := formed_any ⟨10, who, a, b, cc, ls, bs⟩ AL cL B5 d5 W5
              unfold BoolPost cv at hfo
              simp only at hfo
              cases hfm : formedC ⟨10, who, a, b, cc, ls, bs⟩ with
              | false =>
                rw [hfm] at hfo
                have FM := Lib.hid hfm
                clear hfm hcW h0
                go_wp2_with fail
                refine hfo.mono ?_
                rintro e7 w7 ⟨rfl, hC7⟩
                have hD7 := HDD.out.grow hC7
                obtain ⟨z0, z1, z2, z3, z4, z5, z6⟩ := read7 hD7.zero
                have y0 := frozen_of hD7.zero 0
                have y1 := frozen_of hD7.zero 1
                have y2 := frozen_of hD7.zero 2
                have y3 := frozen_of hD7.zero 3
                have y4 := frozen_of hD7.zero 4
                have y5 := frozen_of hD7.zero 5
                have y6 := frozen_of hD7.zero 6
                have fz := dec_zero hD7 (decC_bad (l := l) (by rw [HX.out]; exact Or.inr (Or.inr FM.out)))
                have FZ := Lib.hid fz
                clear fz hfo hD7 hC7
                go_wp2
                exact bodyPost_ret (v := .tuple #[cv c7zero none 0 none 0, .int .i64 2]) (by simp [results, Try.results42, go_sem, cv, c7zero, z0, z1, z2, z3, z4, z5, z6]) rfl (FZ.out _ (by repeat (first | (with_reducible exact Chg.refl _ _) | (with_reducible refine chg_set_g ?_ _ _))))
              | true =>
                rw [hfm] at hfo
                have FM := Lib.hid hfm
                clear hfm hcW h0
                go_wp2_with fail
                refine hfo.mono ?_
                rintro e7 w7 ⟨rfl, hC7⟩
                have hD7 := HDD.out.grow hC7
                obtain ⟨z0, z1, z2, z3, z4, z5, z6⟩ := read7 hD7.zero
                obtain ⟨c0, c1', c2, c3, c4, c5, c6⟩ := hD7.cells
                have y0 := frozen_of hD7.zero 0
                have y1 := frozen_of hD7.zero 1
                have y2 := frozen_of hD7.zero 2
                have y3 := frozen_of hD7.zero 3
                have y4 := frozen_of hD7.zero 4
                have y5 := frozen_of hD7.zero 5
                have y6 := frozen_of hD7.zero 6
                obtain ⟨AL2, cL2, hvl2, fe⟩ := dec_end hD7 (HBB.out.1.chg hC7 (fun _ _ => id)) HBB.out.2.1 HBB.out.2.2 (r := decC l) (by rw [decC_good (by rw [HX.out]; exact hs5) (by rw [HX.out]; exact HN5.out.symm) (by rw [HX.out]; exact FM.out), HX.out])
                simp only [Value.slice.injEq] at hvl2; obtain ⟨rfl, _, rfl⟩ := hvl2
                have FE := Lib.hid fe
                clear fe hfo hD7 hC7
                go_wp2
                exact bodyPost_ret (v := .tuple #[cv ⟨10, who, a, b, cc, ls, bs⟩ AL cL B5 d5, .int .i64 0]) (by simp [results, Try.results42, go_sem, cv, z0, z1, z2, z3, z4, z5, z6]) rfl (FE.out _ (by repeat (first | (with_reducible exact Chg.refl _ _) | (with_reducible refine chg_set_g ?_ _ _))))
        · have b6 := beq_eq_false_iff_ne.2 k6
          have b10 := beq_eq_false_iff_ne.2 k10
          obtain ⟨W5, hW5⟩ : ∃ W5, W5 = wr := ⟨_, rfl⟩
          have hx : readC l = (⟨k, who, a, b, cc, [], []⟩, s) := by rw [HRE.out]; simp only [if_neg k6, if_neg k10]
          subst hW5
          have gen : ∃ (VL : Value) (ls : List Int) (B5 : Option Addr) (d5 : Nat) (bs : List Int) (s5 : List Int × Bool), Dc w g0 gr gc s5 k who a b cc VL (.slice B5 bs.length d5) ls W5 ∧ ReadsI W5 .u8 B5 bs ∧ bs.length ≤ d5 ∧ (∀ x, B5 = some x → x.block ≠ g0) ∧ readC l = (⟨k, who, a, b, cc, ls, bs⟩, s5) := ⟨_, [], none, 0, [], s, HD.out, fun h => absurd rfl h, Nat.le_refl _, (fun x hx => by cases hx), hx⟩
          obtain ⟨VL, ls, B5, d5, bs, s5, hD, hB5, hd5, hbb, hx⟩ := gen
          have HX := Lib.hid hx
          clear hx HRE HD HNUM k6 k10 HP4 HM E1 E2 c0 c1' c2 c3 c4 c5 c6
          obtain ⟨A1, c1, q1, q2, q3, q4, q5, q6⟩ := hD.rd
          have r0 : W5.cell? ⟨gr, 0, none⟩ = some (.slice A1 s5.1.length c1) := cell_of q1 0 rfl
          have r1 : W5.cell? ⟨gr, 1, none⟩ = some (.bool s5.2) := cell_of q1 1 rfl
          obtain ⟨z0, z1, z2, z3, z4, z5, z6⟩ := read7 hD.zero
          have y0 := frozen_of hD.zero 0
          have y1 := frozen_of hD.zero 1
          have y2 := frozen_of hD.zero 2
          have y3 := frozen_of hD.zero 3
          have y4 := frozen_of hD.zero 4
          have y5 := frozen_of hD.zero 5
          have y6 := frozen_of hD.zero 6
          obtain ⟨c0, c1', c2, c3, c4, c5, c6⟩ := hD.cells
          have HDD := Lib.hid hD
          have HBB := Lib.hid (And.intro hB5 (And.intro hd5 hbb))
          obtain ⟨n5, hn5⟩ : ∃ n, n = s5.1.length := ⟨_, rfl⟩
          rw [← hn5] at r0
          have HN5 := Lib.hid hn5
          clear hD hB5 hd5 hbb q1 q2 q3 q4 q5 q6 hn5
          cases hs5 : s5.2 with
          | true =>
            rw [hs5] at r1
            have fz := dec_zero HDD.out (decC_bad (l := l) (by rw [HX.out]; exact Or.inl hs5))
            have FZ := Lib.hid fz
            clear fz
            go_wp2
            exact bodyPost_ret (v := .tuple #[cv c7zero none 0 none 0, .int .i64 2]) (by simp [results, Try.results42, go_sem, cv, c7zero, z0, z1, z2, z3, z4, z5, z6]) rfl (FZ.out _ (by repeat (first | (with_reducible exact Chg.refl _ _) | (with_reducible refine chg_set_g ?_ _ _))))
          | false =>
            rw [hs5] at r1
            by_cases h0 : 0 < n5
            · have h0i : decide ((0 : Int) < (n5 : Int)) = true := decide_eq_true (by omega)
              have fz := dec_zero HDD.out (decC_bad (l := l) (by rw [HX.out]; exact Or.inr (Or.inl (by rw [HN5.out] at h0; exact h0))))
              have FZ := Lib.hid fz
              clear fz
              go_wp2
              exact bodyPost_ret (v := .tuple #[cv c7zero none 0 none 0, .int .i64 2]) (by simp [results, Try.results42, go_sem, cv, c7zero, z0, z1, z2, z3, z4, z5, z6]) rfl (FZ.out _ (by repeat (first | (with_reducible exact Chg.refl _ _) | (with_reducible refine chg_set_g ?_ _ _))))
            · obtain rfl : n5 = 0 := by omega
              obtain ⟨AL, cL, hvl, _⟩ := HDD.out.own.form
              have hcW := HDD.out
              subst hvl
              have hfo := formed_any ⟨k, who, a, b, cc, ls, bs⟩ AL cL B5 d5 W5
              unfold BoolPost cv at hfo
              simp only at hfo
              cases hfm : formedC ⟨k, who, a, b, cc, ls, bs⟩ with
              | false =>
                rw [hfm] at hfo
                have FM := Lib.hid hfm
                clear hfm hcW h0
                go_wp2_with fail
                refine hfo.mono ?_
                rintro e7 w7 ⟨rfl, hC7⟩
                have hD7 := HDD.out.grow hC7
                obtain ⟨z0, z1, z2, z3, z4, z5, z6⟩ := read7 hD7.zero
                have y0 := frozen_of hD7.zero 0
                have y1 := frozen_of hD7.zero 1
                have y2 := frozen_of hD7.zero 2
                have y3 := frozen_of hD7.zero 3
                have y4 := frozen_of hD7.zero 4
                have y5 := frozen_of hD7.zero 5
                have y6 := frozen_of hD7.zero 6
                have fz := dec_zero hD7 (decC_bad (l := l) (by rw [HX.out]; exact Or.inr (Or.inr FM.out)))
                have FZ := Lib.hid fz
                clear fz hfo hD7 hC7
                go_wp2
                exact bodyPost_ret (v := .tuple #[cv c7zero none 0 none 0, .int .i64 2]) (by simp [results, Try.results42, go_sem, cv, c7zero, z0, z1, z2, z3, z4, z5, z6]) rfl (FZ.out _ (by repeat (first | (with_reducible exact Chg.refl _ _) | (with_reducible refine chg_set_g ?_ _ _))))
              | true =>
                rw [hfm] at hfo
                have FM := Lib.hid hfm
                clear hfm hcW h0
                go_wp2_with fail
                refine hfo.mono ?_
                rintro e7 w7 ⟨rfl, hC7⟩
                have hD7 := HDD.out.grow hC7
                obtain ⟨z0, z1, z2, z3, z4, z5, z6⟩ := read7 hD7.zero
                obtain ⟨c0, c1', c2, c3, c4, c5, c6⟩ := hD7.cells
                have y0 := frozen_of hD7.zero 0
                have y1 := frozen_of hD7.zero 1
                have y2 := frozen_of hD7.zero 2
                have y3 := frozen_of hD7.zero 3
                have y4 := frozen_of hD7.zero 4
                have y5 := frozen_of hD7.zero 5
                have y6 := frozen_of hD7.zero 6
                obtain ⟨AL2, cL2, hvl2, fe⟩ := dec_end hD7 (HBB.out.1.chg hC7 (fun _ _ => id)) HBB.out.2.1 HBB.out.2.2 (r := decC l) (by rw [decC_good (by rw [HX.out]; exact hs5) (by rw [HX.out]; exact HN5.out.symm) (by rw [HX.out]; exact FM.out), HX.out])
                simp only [Value.slice.injEq] at hvl2; obtain ⟨rfl, _, rfl⟩ := hvl2
                have FE := Lib.hid fe
                clear fe hfo hD7 hC7
                go_wp2
                exact bodyPost_ret (v := .tuple #[cv ⟨k, who, a, b, cc, ls, bs⟩ AL cL B5 d5, .int .i64 0]) (by simp [results, Try.results42, go_sem, cv, z0, z1, z2, z3, z4, z5, z6]) rfl (FE.out _ (by repeat (first | (with_reducible exact Chg.refl _ _) | (with_reducible refine chg_set_g ?_ _ _))))
end Go.Proofs.Ytcdbchdlenkdgaa
