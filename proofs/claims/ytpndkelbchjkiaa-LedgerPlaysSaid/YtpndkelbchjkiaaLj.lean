/- Rows of chunks: copied; an account told. -/
import Derived.Test.YtpndkelbchjkiaaLi
import Derived.Lib.SliceRun
set_option linter.unusedVariables false
set_option linter.unusedSimpArgs false
namespace Go.Proofs.Ytpndkelbchjkiaa
open Go.RowKit Go.Ps
/-- A row of chunks that the call has laid anew. -/
def NewC (w w' : World) (v : Value) (l : List (Int × Int)) : Prop := OwnF w' 38 2 fch v l ∧ Chg (fun _ => False) w w' ∧ ∀ k, v.ownBlock = some k → w.heap.size ≤ k
theorem ownF_empty (w : World) : OwnF (w.alloc (.cells #[] 38)) 38 2 fch (.slice (some ⟨w.heap.size, 0, none⟩) 0 0) [] :=
  ⟨rfl, .inr ⟨w.heap.size, 0, #[], rfl, Nat.zero_le _, heap_alloc_at w _, Nat.le_refl _, Nat.zero_le _, rfl, rfl⟩⟩
set_option maxRecDepth 20000 in
set_option maxHeartbeats 2000000 in
theorem clone_any {w : World} {v : Value} {l : List (Int × Int)} (h : OwnF w 38 2 fch v l) (hl : l.length ≤ 1000) :
    Calls Try.prog 36 #[v] w fun e w' => ∃ A c, e = .returned (.slice A l.length c) ∧ NewC w w' (.slice A l.length c) l := by
  obtain ⟨A, c, rfl, hcap, hr, hA, hn⟩ := h.form
  cases A with
  | none =>
    obtain ⟨_, rfl⟩ := hn rfl
    have e0 := Lib.run_eql_slice_nil (P := Try.prog) w 32 38 none 0 c 0 0 Try.underlying32
    simp only [List.length_nil]
    clear h hr hA hn hl hcap
    go_enter Try.func36, Try.ntmps36
    go_wp2
    go_ret
    exact ⟨none, 0, rfl, OwnF.nil _ _ _ _, Chg.refl _ _, fun k hk => by cases hk⟩
  | some a =>
    have hC : Chg (fun _ => False) w (w.alloc (.cells #[] 38)) := (Chg.refl _ w).alloc _
    obtain ⟨A', c', w2, hrun, ho, hg, hat⟩ := (ownF_empty w).appendF (P := Try.prog) layC 32 Try.underlying32 info38 rfl (m := l) c (hr.chg layC hC (fun _ _ => id)) (by simp; omega) (by omega)
    have e0 := Lib.run_eql_slice_nil (P := Try.prog) w 32 38 (some a) l.length c 0 0 Try.underlying32
    simp only [List.length_nil, Nat.zero_add, List.nil_append] at hrun ho hat
    have hown : Value.ownBlock (.slice (some ⟨w.heap.size, 0, none⟩) 0 0) = some w.heap.size := rfl
    rw [hown] at hg hat
    have HN : Hid (NewC w w2 (.slice A' l.length c') l) := Lib.hid ⟨ho, hC.trans ((Chg.refl (fun k => k = w.heap.size) _).grown hg (fun k hk _ => by simpa using hk.symm)) (fun k hk h => by omega), fun k hk => by
      rcases hat with hat | hat
      · rw [hat] at hk; simp at hk; omega
      · rw [hat] at hk; simp at hk; omega⟩
    obtain ⟨n, hn2⟩ : ∃ n, n = l.length := ⟨_, rfl⟩
    rw [← hn2] at hrun HN e0
    rw [← hn2]
    clear h hr hA hn hl hcap hC ho hg hat hown hn2
    go_enter Try.func36, Try.ntmps36
    go_wp2_with (at_builtin; refine wpList_append_run rfl _ _ 32 rfl _ _ _ _ rfl rfl hrun ?_)
    go_ret
    exact ⟨_, _, rfl, HN.out⟩
theorem LS.cells {tG tA tC : TypeId} {w : World} {g : Nat} {V : Value} {L : List Row} {s : S} {hd : S → List Value} (h : LS tG tA tC hd w g V L s) {i : Nat} (hi : i < L.length) :
    ∃ b c A cc, V = .slice (some ⟨b, 0, none⟩) L.length c ∧ (L.getD i r0).v = .slice A (s.acc.getD i a0).ch.length cc ∧ V.ownBlock = some b ∧ ∀ w1, Chg (fun _ => False) w w1 → w1.cell? ⟨g, 0, none⟩ = some (.slice (some ⟨b, 0, none⟩) L.length c) ∧
      w1.cell? ⟨b, i * 4, none⟩ = some (.int .u64 (s.acc.getD i a0).free) ∧ w1.cell? ⟨b, i * 4 + 1, none⟩ = some (.int .u64 (s.acc.getD i a0).bonded) ∧ w1.cell? ⟨b, i * 4 + 2, none⟩ = some (.int .u64 (s.acc.getD i a0).dep) ∧
      w1.cell? ⟨b, i * 4 + 3, none⟩ = some (.slice A (s.acc.getD i a0).ch.length cc) := by
  obtain ⟨b, c, cur, e1, e2, e3, hcur, e5, e6⟩ := h.at_.acc hi
  have hxx : (L.getD i r0).1 = s.acc.getD i a0 := by rw [← fst_getD, h.acc]
  rw [← hxx]
  refine ⟨b, c, _, _, e1, rfl, e2, fun w1 hC => ?_⟩
  have hb := chg_heap0 hC hcur
  have q0 := e6 i 0 hi (by omega)
  have h0 := cell_of (chg_heap0 hC h.at_.cell) 0 rfl
  rw [e1] at h0
  exact ⟨h0, cell_of hb _ q0, cell_of hb _ (e6 i 1 hi (by omega)), cell_of hb _ (e6 i 2 hi (by omega)), cell_of hb _ (e6 i 3 hi (by omega))⟩
theorem fill4 {w : World} {q : Nat} {t : TypeId} {z0 z1 z2 z3 : Value} (h : w.heap[q]? = some (.cells #[z0, z1, z2, z3] t (0, 0))) (a0 a1 a2 a3 : Value) :
    ((((w.setCell ⟨q, 0, none⟩ a0).setCell ⟨q, 1, none⟩ a1).setCell ⟨q, 2, none⟩ a2).setCell ⟨q, 3, none⟩ a3).heap[q]? = some (.cells #[a0, a1, a2, a3] t (0, 0)) := by
  have h1 := heap_setCell h 0 a0
  have h2 := heap_setCell h1 1 a1
  have h3 := heap_setCell h2 2 a2
  have h4 := heap_setCell h3 3 a3
  simpa using h4
theorem chg_fill4 {F : Nat → Prop} {w0 w : World} {q : Nat} (h : Chg F w0 w) (hq : w0.heap.size ≤ q) (a0 a1 a2 a3 : Value) :
    Chg F w0 ((((w.setCell ⟨q, 0, none⟩ a0).setCell ⟨q, 1, none⟩ a1).setCell ⟨q, 2, none⟩ a2).setCell ⟨q, 3, none⟩ a3) :=
  (((h.setCell (p := ⟨q, 0, none⟩) (fun h => absurd h (by simp; omega)) _).setCell (p := ⟨q, 1, none⟩) (fun h => absurd h (by simp; omega)) _).setCell (p := ⟨q, 2, none⟩) (fun h => absurd h (by simp; omega)) _).setCell (p := ⟨q, 3, none⟩) (fun h => absurd h (by simp; omega)) _
def AccPost (s : S) (id : Int) (w : World) (e : Ending) (w' : World) : Prop :=
  if s.bad id then e = .returned (.tuple #[.agg #[.int .u64 0, .int .u64 0, .int .u64 0, .slice none 0 0], .bool false]) ∧ Chg (fun _ => False) w w'
  else ∃ A c, e = .returned (.tuple #[.agg #[.int .u64 (s.acc.getD id.toNat a0).free, .int .u64 (s.acc.getD id.toNat a0).bonded, .int .u64 (s.acc.getD id.toNat a0).dep, .slice A (s.acc.getD id.toNat a0).ch.length c], .bool true]) ∧ NewC w w' (.slice A (s.acc.getD id.toNat a0).ch.length c) (s.acc.getD id.toNat a0).ch
set_option maxRecDepth 20000 in
set_option maxHeartbeats 4000000 in
theorem account_any {w : World} {g : Nat} {V : Value} {L : List Row} {s : S} (h : LS 64 34 38 S.hd w g V L s) (id : Int) (hch : (s.acc.getD id.toNat a0).ch.length ≤ 1000) :
    Calls Try.prog 12 #[.pointer (some ⟨g, 0, none⟩), .int .i64 id] w (AccPost s id w) := by
  have hC0 : Chg (fun _ => False) w (w.alloc (.cells #[.int .u64 0, .int .u64 0, .int .u64 0, .slice none 0 0] 34)) := (Chg.refl _ w).alloc _
  have hf := find_one (h.keep hC0) id
  simp only [World.size_alloc] at hf
  unfold AccPost
  by_cases h0 : s.bad id
  · simp only [if_pos h0] at hf ⊢
    clear h hch h0
    go_enter Try.func12, Try.ntmps12
    go_wp2_with fail
    refine hf.mono ?_
    rintro e w1 ⟨rfl, hC⟩
    have c : w1.heap[w.heap.size]? = some (.cells #[.int .u64 0, .int .u64 0, .int .u64 0, .slice none 0 0] 34) := chg_heap0 hC (heap_alloc_at _ _)
    have HC := Lib.hid (hC0.trans hC (fun _ _ h => h))
    obtain ⟨r, hr⟩ : ∃ r, r = w.heap.size := ⟨_, rfl⟩
    rw [← hr] at c ⊢
    have HR := Lib.hid hr
    obtain ⟨x0, x1, x2, x3⟩ := read4 c
    have y0 := frozen_of c 0
    have y1 := frozen_of c 1
    have y2 := frozen_of c 2
    have y3 := frozen_of c 3
    clear hC hC0 hr c hf
    go_wp2
    refine bodyPost_ret (v := .tuple #[.agg #[.int .u64 0, .int .u64 0, .int .u64 0, .slice none 0 0], .bool false]) ?_ rfl ⟨rfl, ?_⟩
    · simp [results, Try.results12, go_sem, x0, x1, x2, x3]
    · exact chg_fill4 HC.out (by have := HR.out; omega) _ _ _ _
  · simp only [if_neg h0] at hf ⊢
    obtain ⟨m, rfl⟩ : ∃ m : Nat, id = (m : Int) := ⟨id.toNat, by unfold S.bad at h0; omega⟩
    have hm : m < s.acc.length := by unfold S.bad at h0; omega
    simp only [Int.toNat_natCast] at hch ⊢
    have hmL : m < L.length := by rw [h.len]; exact hm
    obtain ⟨b, c, A, cc, e1, e2, e3, hcells⟩ := h.cells hmL
    have hrow := (h.at_.chs m hmL)
    obtain ⟨a, ha⟩ : ∃ a, a = s.acc.getD m a0 := ⟨_, rfl⟩
    have hxx : (L.getD m r0).1 = a := by rw [← fst_getD, h.acc, ha]
    rw [← ha] at hch hcells e2 ⊢
    rw [e2, hxx] at hrow
    obtain ⟨n, hn⟩ : ∃ n, n = L.length := ⟨_, rfl⟩
    rw [← hn] at hmL e1 hcells
    obtain ⟨free, bonded, dep, ch⟩ := a
    simp only at hch hcells e2 hrow ⊢
    have HROW := Lib.hid (⟨hrow, hch⟩ : _ ∧ _)
    obtain ⟨cn, hcn⟩ : ∃ n, n = ch.length := ⟨_, rfl⟩
    rw [← hcn] at HROW hcells ⊢
    have HCN := Lib.hid hcn
    clear h h0 hm hch hxx ha hrow hn hcn e1 e2
    go_enter Try.func12, Try.ntmps12
    go_wp2_with fail
    refine hf.mono ?_
    rintro e w1 ⟨rfl, hC⟩
    have hC1 := hC0.trans hC (fun _ _ h => h)
    have kr : w1.heap[w.heap.size]? = some (.cells #[.int .u64 0, .int .u64 0, .int .u64 0, .slice none 0 0] 34) := chg_heap0 hC (heap_alloc_at _ _)
    obtain ⟨k1, c0, c1, c2, c3⟩ := hcells w1 hC1
    have HC1 := Lib.hid hC1
    have KR := Lib.hid kr
    clear hf hC hC0 hC1 kr hcells
    go_wp2_with fail
    have hC2 : Chg (fun _ => False) w (w1.alloc (.cells #[.int .u64 free, .int .u64 bonded, .int .u64 dep, .slice A cn cc] 34)) := HC1.out.alloc _
    have hcl := clone_any (HROW.out.1.chg hC2 (fun _ _ => id)) (by rw [← HCN.out]; exact HROW.out.2)
    rw [← HCN.out] at hcl
    refine hcl.mono ?_
    rintro e w2 ⟨A2, ca2, rfl, hN⟩
    have kq : w2.heap[w1.heap.size]? = some (.cells #[.int .u64 free, .int .u64 bonded, .int .u64 dep, .slice A cn cc] 34) := chg_heap0 hN.2.1 (heap_alloc_at _ _)
    have kr : w2.heap[w.heap.size]? = some (.cells #[.int .u64 0, .int .u64 0, .int .u64 0, .slice none 0 0] 34) := chg_heap0 hN.2.1 (heap_alloc_ne KR.out)
    have hlt := heap_lt KR.out
    have hC3 := hC2.trans hN.2.1 (fun _ _ h => h)
    obtain ⟨q, hq⟩ : ∃ q, q = w1.heap.size := ⟨_, rfl⟩
    obtain ⟨r, hr⟩ : ∃ r, r = w.heap.size := ⟨_, rfl⟩
    rw [← hq] at kq ⊢
    rw [← hr] at kr ⊢
    have hqr : r ≠ q := by omega
    have hqr2 : q ≠ r := by omega
    obtain ⟨x0, x1, x2, x3⟩ := read4 kq
    have yq := frozen_of kq 3
    have y0 := frozen_of kr 0
    have y1 := frozen_of kr 1
    have y2 := frozen_of kr 2
    have y3 := frozen_of kr 3
    obtain ⟨u0, u1, u2, u3⟩ := read4 kr
    have hFin : Hid (NewC w (((((w2.setCell ⟨q, 3, none⟩ (.slice A2 cn ca2)).setCell ⟨r, 0, none⟩ (.int .u64 free)).setCell ⟨r, 1, none⟩ (.int .u64 bonded)).setCell ⟨r, 2, none⟩ (.int .u64 dep)).setCell ⟨r, 3, none⟩ (.slice A2 cn ca2)) (.slice A2 cn ca2) ch) := Lib.hid (by
      have hC4 : Chg (fun k => k = q ∨ k = r) w2 (w2.setCell ⟨q, 3, none⟩ (.slice A2 cn ca2)) := (Chg.refl _ _).setCell (p := ⟨q, 3, none⟩) (fun _ => .inl rfl) _
      have hC5 : Chg (fun k => k = q ∨ k = r) w2 (((((w2.setCell ⟨q, 3, none⟩ (.slice A2 cn ca2)).setCell ⟨r, 0, none⟩ (.int .u64 free)).setCell ⟨r, 1, none⟩ (.int .u64 bonded)).setCell ⟨r, 2, none⟩ (.int .u64 dep)).setCell ⟨r, 3, none⟩ (.slice A2 cn ca2)) := (((hC4.setCell (p := ⟨r, 0, none⟩) (fun _ => .inr rfl) _).setCell (p := ⟨r, 1, none⟩) (fun _ => .inr rfl) _).setCell (p := ⟨r, 2, none⟩) (fun _ => .inr rfl) _).setCell (p := ⟨r, 3, none⟩) (fun _ => .inr rfl) _
      refine ⟨?_, hC3.trans hC5 (fun k hk h => by omega), fun k hk => ?_⟩
      · refine hN.1.chg hC5 (fun k hk h => ?_)
        have := hN.2.2 k hk
        simp at this
        omega
      · have := hN.2.2 k hk
        simp at this
        omega)
    clear hcl hN hC2 hC3 kq kr HROW HCN HC1 KR hq hr hlt c0 c1 c2 c3 k1
    go_wp2
    refine bodyPost_ret (v := .tuple #[.agg #[.int .u64 free, .int .u64 bonded, .int .u64 dep, .slice A2 cn ca2], .bool true]) ?_ rfl ⟨A2, ca2, rfl, hFin.out⟩
    simp [results, Try.results12, go_sem, u0, u1, u2, u3, hqr, hqr2]
end Go.Proofs.Ytpndkelbchjkiaa
