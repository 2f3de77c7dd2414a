/- Solutions: the reference's all, Same and what these call. -/
import Derived.Test.YtcdbchdlenkdgaaSf
import Derived.Test.YtcdbchdlenkdgaaRg
import Derived.Test.YtcdbchdlenkdgaaSp
set_option linter.unusedVariables false
set_option linter.unusedSimpArgs false
namespace Go.Proofs.Ytcdbchdlenkdgaa
open Go.RowKit Go.Ps

theorem rall_succ (f : Nat) (l : List Int) : rall (f + 1) l = if l.length = 0 then some [] else if (tk l).2.2 = 0 then (rall f (l.drop (tk l).2.1.toNat)).map ((tk l).1 :: ·) else none := rfl
/-- More rounds than there are bytes change nothing. -/
theorem rall_more : ∀ (f g : Nat) (l : List Int), Bytes l → l.length ≤ f → l.length ≤ g → rall f l = rall g l
  | 0, 0, _, _, _, _ => rfl
  | 0, g + 1, l, _, hf, _ => by
    obtain rfl : l = [] := List.eq_nil_of_length_eq_zero (by omega)
    rfl
  | f + 1, 0, l, _, _, hg => by
    obtain rfl : l = [] := List.eq_nil_of_length_eq_zero (by omega)
    rfl
  | f + 1, g + 1, l, hb, hf, hg => by
    rw [rall_succ, rall_succ]
    by_cases h0 : l.length = 0
    · rw [if_pos h0, if_pos h0]
    · rw [if_neg h0, if_neg h0]
      by_cases he : (tk l).2.2 = 0
      · rw [if_pos he, if_pos he]
        rcases tk_facts hb with h1 | h1
        · obtain ⟨_, hu, hk1, hk2, hk3, hen⟩ := h1
          rw [rall_more f g _ (hb.drop _) (by rw [List.length_drop]; omega) (by rw [List.length_drop]; omega)]
        · omega
      · rw [if_neg he, if_neg he]
theorem hasV_append1 {S : World → Prop} {o : Oper} {a : Act} {w : World} (s x : Operand) (t : TypeId) (ho : o.op = .call { callee := .builtin .append, args := #[s, x], argTypes := #[t, t] }) (va vb v' : Value) (w' : World) (hs : a.eval s = va) (hx : a.eval x = vb)
    (hr : (Builtin.append_ #[t, t] o.type #[va, vb]).run Try.prog w = .ok v' w') (h : S w') : HasV Try.prog S v' ((execOp a.eval o).run Try.prog w) := by
  unfold execOp
  simp only [ho, resolve, invoke, builtin, Sem.run_bind, Sem.run_pure, Result.andThen_ok, List.map_toArray, List.map_cons, List.map_nil, hs, hx, hr]
  exact HasV.val h
theorem hasV_slice1 {S : World → Prop} {o : Oper} {a : Act} {w : World} (t : TypeId) (x : Operand) (lo hi : Option Operand) (ho : o.op = .slice t x lo hi none) (vx v' : Value) (vlo vhi : Option Value) (hx : a.eval x = vx) (hlo : lo.map a.eval = vlo) (hhi : hi.map a.eval = vhi)
    (hr : (Instr.sliceAt t vx vlo vhi none).run Try.prog w = .ok v' w) (h : S w) : HasV Try.prog S v' ((execOp a.eval o).run Try.prog w) := by
  unfold execOp
  subst hx hlo hhi
  simp only [ho, Sem.run_bind, Sem.run_pure, Result.andThen_ok, Option.map_none, hr]
  exact HasV.val h
theorem mem_fin {P : Program} {ops : Array Oper} {md : Region.Mode} {ks : List Nat} {ww : Nat → World} {Q : Act → Prop} {k : Nat} {a : Act} (h : Q a) : G.wpDet P ops md (G.Stage ks ww) Q k [] a := h
def AllPost (t : Option (List Int)) (w : World) (e : Ending) (w' : World) : Prop :=
  ∃ v, e = .returned (.tuple #[v, .bool t.isSome]) ∧ New 24 .u64 w w' v (t.getD [])
set_option maxRecDepth 100000 in
set_option maxHeartbeats 2000000 in
theorem all_any (w : World) (A : Option Addr) (c : Nat) (l : List Int) (hr : ReadsI w .u8 A l) (hb : Bytes l) (hl : l.length ≤ 20000000000) (hcap : l.length ≤ c) : Calls Try.prog 53 #[.slice A l.length c] w (AllPost (rall l.length l) w) := by
  obtain ⟨T, hT⟩ : ∃ T, T = rall l.length l := ⟨_, rfl⟩
  rw [← hT]
  have HR := Lib.hid hr
  have HB := Lib.hid hb
  have HT := Lib.hid hT
  clear hr hb hT
  go_enter Try.func53, Try.ntmps53
  go_wp2_with fail
  go_loopw [0, 4] (fun b v wr => ∃ (I m n cb : Nat) (B : Option Addr) (acc : List Int) (A3 : Option Addr) (c3 : Nat), b = .slice B n cb ∧ n ≤ cb ∧ v = .slice A3 m c3 ∧ I ≤ l.length ∧ acc.length ≤ I ∧ n = l.length - I ∧ Hid (ReadsI w .u8 B (l.drop I)) ∧ Hid (T = (rall n (l.drop I)).map (acc ++ ·)) ∧ Hid (New 24 .u64 w wr (.slice A3 m c3) acc)) (fun b _ _ => match b with | .slice _ n _ => n | _ => 0)
  case atStart => exact ⟨0, 0, l.length, c, A, [], none, 0, rfl, hcap, rfl, by omega, by simp, by omega, HR, Lib.hid (by rw [HT.out, List.drop_zero]; simp), Lib.hid (New.nil _ _ _)⟩
  case round =>
    obtain ⟨I, m, n, cb, B, acc, A3, c3, rfl, hncb, rfl, hI, hacc, hn, hrB, hT, hN⟩ := hrel
    have hml := (New.cap hN.out).1
    by_cases hn0 : n = 0
    · subst hn0
      have fin : AllPost T w (.returned (.tuple #[.slice A3 m c3, .bool true])) wr := ⟨_, by rw [hT.out]; rfl, by rw [hT.out]; simpa [rall] using hN.out⟩
      have FIN := Lib.hid fin
      clear fin hN hT hml hacc hrB HT hn
      go_wp2
      go_ret2
      exact FIN.out
    · have hnp : 0 < n := by omega
      have hnI : ((0 : Int) < (n : Int)) := by omega
      have hdl : (l.drop I).length = n := by rw [List.length_drop]; omega
      have h18 := rtake_any wr B cb (l.drop I) (hrB.out.chg hN.out.2.1 (fun _ _ => id)) (HB.out.drop I) (by omega) (by omega)
      have hf := tk_facts (HB.out.drop I)
      rw [hdl] at h18 hf
      unfold RTkPost at h18
      have hT2 := hT.out
      rw [show n = (n - 1) + 1 by omega, rall_succ, if_neg (by omega)] at hT2
      obtain ⟨t, ht⟩ : ∃ t, t = tk (l.drop I) := ⟨_, rfl⟩
      rw [← ht] at h18 hf hT2
      obtain ⟨x, k, e⟩ := t
      simp only at hf h18 hT2
      by_cases he : e = 0
      · subst he
        rw [if_pos rfl] at hT2
        have hf' : U64' x ∧ 1 ≤ k ∧ k ≤ (n : Int) := by
          rcases hf with h | h
          · exact ⟨h.2.1, h.2.2.1, h.2.2.2.2.1⟩
          · omega
        obtain ⟨⟨hx1, hx2⟩, hk1, hk2⟩ := hf'
        obtain ⟨K, rfl⟩ : ∃ K : Nat, k = (K : Int) := ⟨k.toNat, by omega⟩
        rw [Int.toNat_natCast, List.drop_drop] at hT2
        have hK2 : K ≤ n := by omega
        have hT3 : Hid (T = (rall (n - K) (l.drop (I + K))).map ((acc ++ [x]) ++ ·)) := Lib.hid (by
          rw [hT2, rall_more (n - 1) (n - K) _ (HB.out.drop _) (by rw [List.length_drop]; omega) (by rw [List.length_drop]; omega)]
          cases rall (n - K) (l.drop (I + K)) <;> simp)
        have hm5 : m ≤ 20000000000 := by omega
        have hpush : ∀ w1, Chg (fun _ => False) wr w1 → ∃ A' c' w7, (Builtin.append_ #[29, 29] 29 #[.slice A3 m c3, .slice (some ⟨w1.heap.size, 0, none⟩) 1 1]).run Try.prog (w1.alloc (.cells #[.int .u64 x] 24)).drew = .ok (.slice A' (m + 1) c') w7 ∧ New 24 .u64 w w7 (.slice A' (m + 1) c') (acc ++ [x]) := fun w1 hC1 => by
          have h0 : New 24 .u64 w (w1.alloc (.cells #[.int .u64 x] 24)).drew (.slice A3 m c3) acc := New.chg hN.out (chg_trans hC1 ((Chg.refl _ _).alloc _).drew)
          obtain ⟨A', c', w7, h1, h2⟩ := New.app (P := Try.prog) (t := 29) (cB := 1) (B := some ⟨w1.heap.size, 0, none⟩) (x := [x]) h0 Try.underlying29 info24 hml.symm (ReadsI.of_block (t := 24) (fr := (0, 0)) (heap_alloc_at _ _)) (by simp; omega) (by omega)
          exact ⟨A', c', w7, h1, h2⟩
        have HPUSH := Lib.hid hpush
        have HRB := Lib.hid hrB.out
        have HN := Lib.hid hN.out
        have HDL := Lib.hid hdl
        have HNN := Lib.hid hn
        have HML := Lib.hid hml
        clear hpush hrB hN hT2 hT hf ht hdl hml hn
        go_wp2_with fail
        refine h18.mono ?_
        rintro e1 w1 ⟨rfl, hC1⟩
        obtain ⟨A', c', w7, hap, hN7⟩ := HPUSH.out w1 hC1
        have hrd := cutA_sub (c := cb) HRB.out K n (by rw [HDL.out]; omega) (by rw [HDL.out]; omega)
        rw [List.take_of_length_le (by rw [HDL.out]; omega), List.drop_drop] at hrd
        have HRD := Lib.hid hrd
        have hsl := fun W => run_cutL (P := Try.prog) (ki := .i64) Try.underlying22 size5 B n cb K hK2 hncb W
        have HSL := Lib.hid hsl
        obtain ⟨ww, h0, h1, h2⟩ : ∃ ww : Nat → World, ww 0 = w1.drew ∧ ww 1 = (w1.alloc (.cells #[.int .u64 x] 24)).drew ∧ ∀ j, ww (j + 2) = w7 := ⟨fun j => match j with | 0 => _ | 1 => _ | j + 2 => _, rfl, rfl, fun _ => rfl⟩
        have H0 := Lib.hid h0
        have H1 := Lib.hid h1
        have H2 := Lib.hid h2
        have HAP := Lib.hid hap
        have HN7 := Lib.hid hN7
        clear h18 hrd hsl h0 h1 h2 hap hN7 hC1
        simp only []
        go_upto_region 6 with (fail)
        refine G.wp_region_mem [2, 3] ww (by kernel_rfl) (by kernel_rfl) (by kernel_rfl) H0.out ?_
        iterate 2 (apply G.mem_step (by rfl) (by rfl); (focus (intro j hj; go_simp; exact HasV.val rfl)); simp only [Act.put, List.setIfInBounds_toArray, List.set_cons_zero, List.set_cons_succ])
        apply G.mem_do 0 (by rfl) (by rfl) (by rfl) (.inl rfl) (by rfl)
        · rw [H0.out]
          go_simp
          exact HasV.val H1.out.symm
        simp only [Act.put, List.setIfInBounds_toArray, List.set_cons_zero, List.set_cons_succ]
        apply G.mem_do 1 (by rfl) (by rfl) (by rfl) (.inr (by first | kernel_rfl | decide)) (by rfl)
        · exact hasV_append1 (.tmp 19) (.tmp 21) 29 rfl _ _ _ _ rfl rfl (by rw [H1.out]; exact HAP.out) (H2.out 0).symm
        simp only [Act.put, List.setIfInBounds_toArray, List.set_cons_zero, List.set_cons_succ]
        iterate 2 (apply G.mem_step (by rfl) (by rfl); (focus (intro j hj; go_simp; exact HasV.val rfl)); simp only [Act.put, List.setIfInBounds_toArray, List.set_cons_zero, List.set_cons_succ])
        apply G.mem_step (by rfl) (by rfl)
        · intro j hj
          exact hasV_slice1 22 (.tmp 23) (some (.tmp 24)) none rfl _ _ _ _ rfl rfl rfl (HSL.out _) rfl
        simp only [Act.put, List.setIfInBounds_toArray, List.set_cons_zero, List.set_cons_succ]
        iterate 2 (apply G.mem_step (by rfl) (by rfl); (focus (intro j hj; go_simp; exact HasV.val rfl)); simp only [Act.put, List.setIfInBounds_toArray, List.set_cons_zero, List.set_cons_succ])
        refine mem_fin ?_
        rw [show ww [2, 3].length = w7 from H2.out 0]
        clear H0 H1 H2 HAP HSL HPUSH
        go_wp2
        go_roundw
        case rel =>
          have hn := HNN.out
          exact ⟨I + K, m + 1, n - K, cb - K, cutA B K cb, acc ++ [x], A', c', rfl, by omega, rfl, by omega, by rw [List.length_append]; simp; omega, by omega, HRD, hT3, HN7⟩
        case measure =>
          have hn := HNN.out
          simp
          omega
      · rw [if_neg he] at hT2
        have heb : (e != 0) = true := by simpa using he
        have fin : ∀ W, Chg (fun _ => False) wr W → AllPost T w (.returned (.tuple #[.slice none 0 0, .bool false])) W := fun W hW => by
          rw [hT2]
          exact ⟨_, rfl, (New.nil _ _ _).chg (chg_trans hN.out.2.1 hW)⟩
        have FIN := Lib.hid fin
        clear fin hN hT hml hacc hrB hT2 hf ht he hn hdl
        go_wp2_with fail
        refine h18.mono ?_
        rintro e1 w1 ⟨rfl, hC1⟩
        have HC1 := Lib.hid hC1
        clear hC1 h18
        simp only []
        go_wp2
        go_ret2
        exact FIN.out _ HC1.out
end Go.Proofs.Ytcdbchdlenkdgaa
