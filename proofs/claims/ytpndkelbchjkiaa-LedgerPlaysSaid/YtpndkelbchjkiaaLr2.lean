/- The document's ledger: New, Issuance, Mint. -/
import Derived.Test.YtpndkelbchjkiaaLr1
import Derived.Test.YtpndkelbchjkiaaLk5
set_option linter.unusedVariables false
set_option linter.unusedSimpArgs false
namespace Go.Proofs.Ytpndkelbchjkiaa
open Go.RowKit Go.Ps
theorem info82 : (Try.prog.info? 82).map (fun i => (i.zero, i.size, i.bytes)) = some (some (.agg #[.int .u64 0, .int .u64 0, .int .u64 0, .slice none 0 0]), 4, 48) := by kernel_rfl
theorem info94 : (Try.prog.info? 94).map (fun i => (i.zero, i.size, i.bytes)) = some (some (.agg #[.int .u64 0, .int .i64 0]), 2, 16) := by kernel_rfl
theorem hasR_append {P : Program} {w : World} {o : Oper} {a : Act} {R : Value → World → Prop} (d s : Operand) (t t' : TypeId)
    (ho : o.op = .call { callee := .builtin .append, args := #[d, s], argTypes := #[t, t'] }) (v u : Value) (hd : a.eval d = v) (hs : a.eval s = u) {v' : Value} {w' : World}
    (hr : (Builtin.append_ #[t, t'] o.type #[v, u]).run P w = .ok v' w') (h : R v' w') : J.HasR P R ((execOp a.eval o).run P w) := by
  unfold execOp
  simp only [ho, resolve, invoke, builtin, Sem.run_bind, Sem.run_pure, Result.andThen_ok, List.map_toArray, List.map_cons, List.map_nil, hd, hs, hr]
  exact h
theorem radd_any (a b : Int) (w : World) (ha : U64 a) (hb : U64 b) : Calls Try.prog 63 #[.int .u64 a, .int .u64 b] w fun e w' => e = .returned (.tuple (if a + b < 18446744073709551616 then #[.int .u64 (a + b), .int .i64 0] else #[.int .u64 0, .int .i64 3])) ∧ w = w' := by
  obtain ⟨h1, h2⟩ := ha
  obtain ⟨h3, h4⟩ := hb
  by_cases h : a + b < 18446744073709551616
  · rw [if_pos h]
    have h5 : ¬ 18446744073709551615 - b < a := by omega
    go_enter Try.func63, Try.ntmps63
    go_wp2
    go_ret2
    exact ⟨rfl, rfl⟩
  · rw [if_neg h]
    have h5 : 18446744073709551615 - b < a := by omega
    clear h
    go_enter Try.func63, Try.ntmps63
    go_wp2
    go_ret2
    exact ⟨rfl, rfl⟩
set_option maxHeartbeats 1000000 in
theorem rsum_any (l : List Int) (w : World) (A : Option Addr) (c : Nat) (hr : ReadsI w .u64 A l) (hl : l.length ≤ 200000000000000) (hu : AllU l) : Calls Try.prog 41 #[.slice A l.length c] w (SumPost (sumU 0 l) w) := by
  have HR := Lib.hid hr
  have HU := Lib.hid hu
  obtain ⟨T, hT⟩ : ∃ T, T = sumU 0 l := ⟨_, rfl⟩
  rw [← hT]
  have HT := Lib.hid hT
  clear hr hu hT
  go_enter Try.func41, Try.ntmps41
  go_wp2
  go_loop [4, 10] (fun n i => ∃ (k : Nat) (N : Int), k ≤ l.length ∧ i = .int .i64 k ∧ n = .int .u64 N ∧ Hid (0 ≤ N ∧ N < 18446744073709551616) ∧ T = sumU N (l.drop k)) (fun _ i => l.length - (intOf i).toNat)
  case atStart => exact ⟨0, 0, by omega, rfl, rfl, Lib.hid ⟨by omega, by omega⟩, HT.out⟩
  case round =>
    obtain ⟨k, N, hk, rfl, rfl, HN, hT⟩ := hrel
    by_cases hk2 : k < l.length
    · obtain ⟨g, o, rfl, hx⟩ := HR.out.plain (by rintro rfl; simp at hk2)
      have hcell := hx k hk2
      have hd := drop_getD l k hk2
      have hux := HU.out.getD k
      obtain ⟨x, hxe⟩ : ∃ x, x = l.getD k 0 := ⟨_, rfl⟩
      rw [hd, ← hxe, sumU] at hT
      rw [← hxe] at hcell hux
      have hadd := radd_any N x w ⟨HN.out.1, HN.out.2⟩ hux
      by_cases h0 : N + x < 18446744073709551616
      · rw [if_pos h0] at hT hadd
        have HT := Lib.hid hT
        have HN1 : Hid (0 ≤ N + x ∧ N + x < 18446744073709551616) := Lib.hid ⟨by have := HN.out.1; have := hux.1; omega, h0⟩
        clear hT hd hxe hx hux h0
        go_wp2_with fail
        refine hadd.mono ?_
        rintro e w1 ⟨rfl, rfl⟩
        go_wp2
        go_round
        case rel => exact ⟨k + 1, N + x, by omega, by go_num, by go_num, HN1, HT.out⟩
        case measure => simp [intOf]; omega
      · rw [if_neg h0] at hT hadd
        subst hT
        clear hd hxe hx HT h0 hux
        go_wp2_with fail
        refine hadd.mono ?_
        rintro e w1 ⟨rfl, rfl⟩
        go_wp2
        go_ret2
        exact ⟨rfl, rfl⟩
    · have ej : k = l.length := by omega
      subst ej
      rw [List.drop_of_length_le (Nat.le_refl _)] at hT
      subst hT
      clear HT
      go_wp2
      go_ret2
      exact ⟨rfl, rfl⟩
/-- A new account, behind all. -/
theorem GAt.push2 {W : World} {g : Nat} {V : Value} {L : List Row} {tre pot : Int} (h : GAt 79 82 94 W g [.int .u64 tre, .int .u64 pot] V L) (x : Ac) (hx : x.ch = []) (hl : L.length ≤ 1000) :
    ∃ A' c' w2, (Builtin.append_ #[77, 77] 77 #[V, .slice (some ⟨W.heap.size, 0, none⟩) 1 1]).run Try.prog (W.alloc (.cells #[.int .u64 x.free, .int .u64 x.bonded, .int .u64 x.dep, .slice none 0 0] 82)) = .ok (.slice A' (L.length + 1) c') w2 ∧
      w2.heap[g]? = some (.cells #[V, .int .u64 tre, .int .u64 pot] 79 (0, 0)) ∧
      GAt 79 82 94 (w2.setCell ⟨g, 0, none⟩ (.slice A' (L.length + 1) c')) g [.int .u64 tre, .int .u64 pot] (.slice A' (L.length + 1) c') (L ++ [nu x]) ∧ Chg (Mine g V L) W (w2.setCell ⟨g, 0, none⟩ (.slice A' (L.length + 1) c')) ∧
      (∀ k, Mine g (.slice A' (L.length + 1) c') (L ++ [nu x]) k → Mine g V L k ∨ W.heap.size ≤ k) := by
  obtain ⟨A', c', w2, hrun, ho, hg, hat⟩ := h.rows.append1 (P := Try.prog) layA 77 Try.underlying77 info82 rfl (nu x) (by omega) (by omega)
  refine ⟨A', c', w2, ?_, ?_, ?_, ?_, ?_⟩
  · simpa [facc, Row.v, hx, nu] using hrun
  · rw [hg.block g (heap_lt h.cell) (Ne.symm h.v0)]; exact h.cell
  all_goals have hV : (nu x).v = .slice none 0 0 := by simp [nu, Row.v, hx]
  all_goals have hC2 : Chg (fun k => V.ownBlock = some k) W w2 := (Chg.refl _ W).grown hg (fun k hk _ => hk)
  all_goals have hc2 : w2.heap[g]? = some (.cells #[V, .int .u64 tre, .int .u64 pot] 79 (0, 0)) := (hC2.block g (heap_lt h.cell) h.v0).trans h.cell
  all_goals have hC3 : Chg (fun k => k = g) w2 (w2.setCell ⟨g, 0, none⟩ (.slice A' (L.length + 1) c')) := Chg.setCell (F := fun k => k = g) (p := ⟨g, 0, none⟩) (Chg.refl _ w2) (fun _ => rfl) _
  all_goals have hne : ∀ k, Value.ownBlock (.slice A' (L.length + 1) c') = some k → k ≠ g := fun k hk e => (by
      subst e
      rcases hat k hk with h1 | h1
      · exact h.v0 h1
      · have := heap_lt h.cell; omega)
  · refine ⟨by rw [heap_setCell hc2]; rfl, ho.chg hC3 hne, fun i hi => ?_, fun e => hne g e rfl, fun i k hi hk => ?_, fun i j k hi hj hk hk2 => ?_⟩
    · rcases LAt.getD_snoc L (nu x) i (by simpa using hi) with ⟨h1, h2⟩ | ⟨h1, h2⟩
      · rw [h2]
        exact ((h.chs i h1).chg hC2 (fun k hk => (h.vs i k h1 hk).2)).chg hC3 (fun k hk => (h.vs i k h1 hk).1)
      · rw [h2, hV]
        rw [show (nu x).1.ch = [] from hx]
        exact OwnF.nil _ _ _ _
    · rcases LAt.getD_snoc L (nu x) i (by simpa using hi) with ⟨h1, h2⟩ | ⟨h1, h2⟩
      · rw [h2] at hk
        refine ⟨(h.vs i k h1 hk).1, fun e => ?_⟩
        rcases hat k e with h3 | h3
        · exact (h.vs i k h1 hk).2 h3
        · have := (h.chs i h1).lt hk; omega
      · rw [h2, hV] at hk
        cases hk
    · rcases LAt.getD_snoc L (nu x) i (by simpa using hi) with ⟨h1, h2⟩ | ⟨h1, h2⟩
      · rcases LAt.getD_snoc L (nu x) j (by simpa using hj) with ⟨h3, h4⟩ | ⟨h3, h4⟩
        · rw [h2] at hk; rw [h4] at hk2
          exact h.vv i j k h1 h3 hk hk2
        · rw [h4, hV] at hk2
          cases hk2
      · rw [h2, hV] at hk
        cases hk
  · exact (hC2.mono (fun k _ hk => .inr (.inl hk))).trans hC3 (fun k _ hk => .inl hk)
  · rintro k (hk | hk | ⟨i, hi, hk⟩)
    · exact .inl (.inl hk)
    · rcases hat k hk with h1 | h1
      · exact .inl (.inr (.inl h1))
      · exact .inr h1
    · rcases LAt.getD_snoc L (nu x) i (by simpa using hi) with ⟨h1, h2⟩ | ⟨h1, h2⟩
      · rw [h2] at hk
        exact .inl (.inr (.inr ⟨i, h1, hk⟩))
      · rw [h2, hV] at hk
        cases hk

def RNew (l : List Int) (w : World) (e : Ending) (w' : World) : Prop :=
  if 32 < l.length then NoPost (.tuple #[.pointer none, .int .i64 1]) w e w'
  else if (sumU 0 l).2 = 0 then ∃ g V, e = .returned (.tuple #[.pointer (some ⟨g, 0, none⟩), .int .i64 0]) ∧ LS 79 82 94 S.hd2 w' g V (nuL l) ⟨l.map (fun b => ⟨b, 0, 0, []⟩), 0, 0, (sumU 0 l).1⟩ ∧ Chg (fun _ => False) w w' ∧ ∀ k, Mine g V (nuL l) k → w.heap.size ≤ k
  else NoPost (.tuple #[.pointer none, .int .i64 (sumU 0 l).2]) w e w'
theorem read3 {w : World} {g : Nat} {c0 c1 c2 : Value} {t : TypeId} (h : w.heap[g]? = some (.cells #[c0, c1, c2] t (0, 0))) : w.cell? ⟨g, 0, none⟩ = some c0 ∧ w.cell? ⟨g, 1, none⟩ = some c1 ∧ w.cell? ⟨g, 2, none⟩ = some c2 :=
  ⟨cell_of h 0 rfl, cell_of h 1 rfl, cell_of h 2 rfl⟩
set_option maxRecDepth 20000 in
set_option maxHeartbeats 2000000 in
theorem rnew_any (l : List Int) (w : World) (A : Option Addr) (c : Nat) (hr : ReadsI w .u64 A l) (hl : l.length ≤ 200000000000000) (hu : AllU l) : Calls Try.prog 17 #[.slice A l.length c] w (RNew l w) := by
  have hsum := rsum_any l w A c hr hl hu
  have hcode := sumU_code l 0
  unfold RNew
  obtain ⟨⟨S1, k⟩, hS⟩ : ∃ s, s = sumU 0 l := ⟨_, rfl⟩
  rw [← hS] at hsum hcode ⊢
  unfold SumPost at hsum
  obtain ⟨n, hn⟩ : ∃ n, n = l.length := ⟨_, rfl⟩
  rw [← hn] at hsum hl ⊢
  simp only at hsum hcode hl ⊢
  by_cases h32 : 32 < n
  · have d : decide ((32 : Int) < (n : Int)) = true := by simp; omega
    simp only [if_pos h32]
    clear hsum hcode hn hS hr hu
    go_enter Try.func17, Try.ntmps17
    go_wp2
    go_ret2
    exact ⟨rfl, Chg.refl _ _⟩
  · have d : decide ((32 : Int) < (n : Int)) = false := by simp; omega
    simp only [if_neg h32]
    rcases hcode with rfl | rfl
    · simp only [if_true]
      have HN := Lib.hid hn
      have HR := Lib.hid hr
      clear hn hr hS
      go_enter Try.func17, Try.ntmps17
      go_wp2_with fail
      refine hsum.mono ?_
      rintro e w1 ⟨rfl, rfl⟩
      obtain ⟨w1, hw1⟩ : ∃ W, W = w.alloc (.cells #[.slice none 0 0, .int .u64 0, .int .u64 0] 79) := ⟨_, rfl⟩
      obtain ⟨g, hg⟩ : ∃ g, g = w.heap.size := ⟨_, rfl⟩
      have h0 : GAt 79 82 94 w1 g [.int .u64 0, .int .u64 0] (.slice none 0 0) (nuL (l.take 0)) := by
        refine ⟨by rw [hw1, hg]; exact heap_alloc_at _ _, by simp only [nuL, List.take_zero, List.map_nil]; exact OwnF.nil _ _ _ _, fun i hi => by simp [nuL] at hi, (by intro e; cases e), fun i k hi => by simp [nuL] at hi, fun i j k hi => by simp [nuL] at hi⟩
      have h1 : Chg (fun _ => False) w w1 := by rw [hw1]; exact (Chg.refl _ w).alloc _
      have h2 : ∀ k', Mine g (.slice none 0 0) (nuL (l.take 0)) k' → w.heap.size ≤ k' := by
        rintro k' (h | h | ⟨i, hi, _⟩)
        · omega
        · cases h
        · simp [nuL] at hi
      have H0 := Lib.hid h0
      have H1 := Lib.hid h1
      have H2 := Lib.hid h2
      have HW1 := Lib.hid hw1
      have HG := Lib.hid hg
      clear h0 h1 h2 hw1 hg hsum
      go_upto_region 7 with (fail)
      rw [← HW1.out, ← HG.out]
      clear HW1 HG
      go_wp2
      go_loopw [23] (fun i wr => ∃ (k : Nat) (V : Value), k ≤ n ∧ i = .int .i64 k ∧ Hid (GAt 79 82 94 wr g [.int .u64 0, .int .u64 0] V (nuL (l.take k))) ∧ Hid (Chg (fun _ => False) w wr) ∧ Hid (∀ k', Mine g V (nuL (l.take k)) k' → w.heap.size ≤ k')) (fun i _ => n - (intOf i).toNat)
      case atStart => exact ⟨0, _, by omega, rfl, H0, H1, H2⟩
      case round =>
        obtain ⟨k, V, hk, rfl, hL, hC, hF⟩ := hrel
        by_cases hk2 : k < n
        · have hkl : k < l.length := by have := HN.out; omega
          obtain ⟨gl, o, rfl, hx⟩ := HR.out.plain (by rintro rfl; simp at hkl)
          have hcell0 := hx k hkl
          have hgl := World.block_lt_of_cell? w _ hcell0
          have hcell := chg_cell hC.out hcell0 id
          have hlen : (nuL (l.take k)).length = k := by simp [nuL]; omega
          have hsn : nuL (l.take k) ++ [nu ⟨l.getD k 0, 0, 0, []⟩] = nuL (l.take (k + 1)) := by
            unfold nuL
            rw [← take_snoc0 l k hkl]
            simp
          obtain ⟨x, hxe⟩ : ∃ x, x = l.getD k 0 := ⟨_, rfl⟩
          obtain ⟨wd, hwd⟩ : ∃ W : World, wr.drew = W := ⟨_, rfl⟩
          have hCd : Chg (fun _ => False) wr wd := by rw [← hwd]; exact (Chg.refl _ _).drew
          obtain ⟨A', c', w2, hrun, hc2, hL2, hC2, hM2⟩ := (hL.out.keep hCd).push2 ⟨l.getD k 0, 0, 0, []⟩ rfl (by omega)
          rw [hsn] at hL2 hM2
          rw [hlen] at hrun hL2 hC2 hM2
          simp only at hrun
          rw [← hxe] at hcell hcell0 hrun
          obtain ⟨z0, _, _⟩ := read3 hL.out.cell
          obtain ⟨z1, _, _⟩ := read3 hc2
          have z2 := frozen_of hc2 0
          have hCw := hC.out.trans hCd (fun _ _ h => h)
          have HL2 := Lib.hid hL2
          have HC2 := Lib.hid (hCw.trans hC2 (fun j hj h => by have := hF.out j h; omega))
          have HF2 := Lib.hid (fun k' hk' => (hM2 k' hk').elim (fun h => hF.out k' h) (fun h => Nat.le_trans hCw.size h))
          have HWD := Lib.hid hwd
          have hcd := chg_cell hCd hcell id
          have hzd := chg_cell hCd z0 id
          have hCal : Chg (fun _ => False) wd (wd.alloc (.cells #[.int .u64 x, .int .u64 0, .int .u64 0, .slice none 0 0] 82)) := (Chg.refl _ _).alloc _
          have hq1 := And.intro (chg_cell hCal hzd id) (chg_cell hCal hcd id)
          have hq2 : w2.cell? ⟨g, 0, none⟩ = some V ∧ w2.cell? ⟨gl, o + k, none⟩ = some (.int .u64 x) := by
            refine ⟨z1, ?_⟩
            have h5 : ¬ Mine g V (nuL (l.take k)) gl := fun e => by have := hF.out gl e; have : gl < w.heap.size := hgl; omega
            have := chg_cell hC2 hcd h5
            rw [World.cell?_setCell_other _ _ _ _ (fun e => h5 (.inl (congrArg Addr.block e).symm))] at this
            exact this
          clear hcell0 hgl hcd hzd hCal
          clear hx hlen hsn hxe hL2 hC2 hM2 hL hC hF hc2 hkl hCd hCw hwd
          go_wp2_with fail
          refine J.wp_region_seq (fun W => W.cell? ⟨g, 0, none⟩ = some V ∧ W.cell? ⟨gl, o + k, none⟩ = some (.int .u64 x)) [(0, 0), (1, 0), (2, 0), (3, 0), (4, 0), (5, 0), (6, 0), (7, 0), (8, 0), (9, 0), (10, 1), (11, 1), (12, 0), (13, 0), (14, 1)] (by kernel_rfl) (by kernel_rfl) (by kernel_rfl) ⟨z0, hcell⟩ ?_
          iterate 10 (apply J.look (by rfl) (by rfl); (focus (intro W hW; obtain ⟨hW0, hW1⟩ := hW; go_simp; exact HasV.val rfl)); simp only [Act.put, List.setIfInBounds_toArray, List.set_cons_zero, List.set_cons_succ])
          rw [HWD.out]
          refine J.link (fun u W => u = .slice (some ⟨wd.heap.size, 0, none⟩) 1 1 ∧ W = wd.alloc (.cells #[.int .u64 x, .int .u64 0, .int .u64 0, .slice none 0 0] 82)) (by rfl) (by rfl) ?_ (fun u W hR => by rw [hR.2]; exact hq1) ?_
          · go_simp
            exact J.HasR.val ⟨rfl, rfl⟩
          rintro u W ⟨rfl, rfl⟩
          simp only [Act.put, List.setIfInBounds_toArray, List.set_cons_zero, List.set_cons_succ]
          refine J.link (fun u W => u = .slice A' (k + 1) c' ∧ W = w2) (by rfl) (by rfl) (hasR_append _ _ 77 77 rfl V (.slice (some ⟨wd.heap.size, 0, none⟩) 1 1) rfl rfl hrun ⟨rfl, rfl⟩) (fun u W hR => by rw [hR.2]; exact hq2) ?_
          rintro u W ⟨rfl, rfl⟩
          simp only [Act.put, List.setIfInBounds_toArray, List.set_cons_zero, List.set_cons_succ]
          iterate 2 (apply J.look (by rfl) (by rfl); (focus (intro W hW; obtain ⟨hW0, hW1⟩ := hW; go_simp; exact HasV.val rfl)); simp only [Act.put, List.setIfInBounds_toArray, List.set_cons_zero, List.set_cons_succ])
          refine J.final (fun u W' => u = undef ∧ W' = W.setCell ⟨g, 0, none⟩ (.slice A' (k + 1) c')) (by rfl) (by rfl) (by kernel_rfl) ?_ ?_
          · go_simp
            exact J.HasR.skip ⟨rfl, rfl⟩
          rintro u W' ⟨rfl, rfl⟩
          simp only [Act.put, List.setIfInBounds_toArray, List.set_cons_zero, List.set_cons_succ]
          refine J.fin ?_
          go_wp2
          go_roundw
          case rel => exact ⟨k + 1, _, by omega, by go_num, HL2, HC2, HF2⟩
          case measure => simp [intOf]; omega
        · have ek : k = n := by omega
          subst ek
          have hfin : Hid (LS 79 82 94 S.hd2 wr g V (nuL l) ⟨l.map (fun b => ⟨b, 0, 0, []⟩), 0, 0, S1⟩ ∧ Chg (fun _ => False) w wr ∧ ∀ k', Mine g V (nuL l) k' → w.heap.size ≤ k') := Lib.hid (by
            have ht : l.take k = l := by rw [HN.out]; exact List.take_length
            have h1 := hL.out
            have h3 := hF.out
            rw [ht] at h1 h3
            refine ⟨⟨h1, ?_⟩, hC.out, h3⟩
            show (l.map _).map _ = _
            rw [List.map_map]
            rfl)
          clear hL hC hF
          go_wp2
          go_ret2
          exact ⟨g, V, rfl, hfin.out.1, hfin.out.2.1, hfin.out.2.2⟩
    · have h3 : ¬ (3 : Int) = 0 := by omega
      simp only [if_neg h3]
      clear hn hr hS
      go_enter Try.func17, Try.ntmps17
      go_wp2_with fail
      refine hsum.mono ?_
      rintro e w1 ⟨rfl, rfl⟩
      go_wp2
      go_ret2
      exact ⟨rfl, Chg.refl _ _⟩
end Go.Proofs.Ytpndkelbchjkiaa
