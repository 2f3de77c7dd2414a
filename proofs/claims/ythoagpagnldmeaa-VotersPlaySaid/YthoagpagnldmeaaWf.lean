/- The law VotersStop: its walk. -/
import Derived.Test.YthoagpagnldmeaaWe
import Derived.Test.YthoagpagnldmeaaWc
import Derived.Test.YthoagpagnldmeaaCt
set_option linter.unusedVariables false
set_option linter.unusedSimpArgs false
namespace Go.Proofs.Ythoagpagnldmeaa.V
open Go.RowKit Go.Ps
theorem set_perm {rows : List (List Vo)} {i : Nat} {l : List Vo} {p : Vo} (h : rows[i]? = some l) : (rows.set i (l ++ [p])).flatten.Perm (p :: rows.flatten) := by
  obtain ⟨rest, h1, h2⟩ := flat_set h
  refine (h2 _).trans ?_
  rw [List.append_assoc, List.singleton_append]
  exact List.perm_middle.trans (h1.symm.cons p)
/-- k voters, of numbers below k. -/
def StV (w0 : World) (g : Nat) (T : List Int) (k : Nat) (W : World) : Prop :=
  ∃ bm tv rv rows col, VM W g bm tv rv T rows k col ∧ rows.flatten.length = k ∧ (∀ p ∈ rows.flatten, 0 ≤ p.id ∧ p.id < k) ∧ Chg (fun _ => False) w0 W ∧ ∀ j, j < w0.heap.size → col j = 0
theorem StV.ins {w0 W W' : World} {g bm : Nat} {tv rv : Value} {T : List Int} {rows : List (List Vo)} {col : Nat → Nat} {k : Nat} {s : Int} (hl : rows.flatten.length = k) (hi : ∀ p ∈ rows.flatten, 0 ≤ p.id ∧ p.id < k) (hC : Chg (fun _ => False) w0 W) (hc : ∀ j, j < w0.heap.size → col j = 0)
    (h : InsPost g bm tv rv T rows k col k s W W') : StV w0 g T (k + 1) W' := by
  obtain ⟨p, l, col', h1, h2, h3, h4, h5, h6⟩ := h
  have hp := set_perm (p := p) h1
  refine ⟨bm, tv, rv, _, col', by rw [show ((k + 1 : Nat) : Int) = (k : Int) + 1 by omega]; exact h5, by rw [hp.length_eq, List.length_cons, hl], fun q hq => ?_, hC.trans h6.1 (fun j hj f => f (hc j hj)), fun j hj => ?_⟩
  · rcases List.mem_cons.1 (hp.mem_iff.1 hq) with rfl | hq
    · omega
    · have := hi q hq; omega
  · rw [h6.2 j (Nat.lt_of_lt_of_le hj hC.size)]; exact hc j hj
theorem wide_rows {rows : List (List Vo)} (h : rows.flatten.length ≤ 1000) : ∀ l ∈ rows, l.length ≤ 1000 := fun l hl => Nat.le_trans (row_len hl) h
theorem all_len {rows : List (List Vo)} (h : (rows.flatten.map (·.id)).Nodup) : (allOf rows).length = rows.flatten.length := by rw [all_ord h, List.length_map, ord_len]
theorem rows_len {rows : List (List Vo)} (hb : ∀ (i : Nat) (l : List Vo), rows[i]? = some l → ∀ p ∈ l, p.bag = i) : (rowsOf rows).length = rows.flatten.length := by rw [rowsOf_ord hb, List.length_map, ord_len]
set_option maxRecDepth 100000 in
set_option maxHeartbeats 4000000 in
theorem votersStop_walk (A0 : Option Addr) (c0 : Nat) (T : List Int) (A1 : Option Addr) (c1 : Nat) (S : List Int) (s : Int) (w : World) (hr0 : ReadsI w .u64 A0 T) (u0 : ∀ x ∈ T, (Lit.int .u64 x).wf = true) (y0 : T.length * 8 ≤ 140737488351232) (hr1 : ReadsI w .u64 A1 S) (u1 : ∀ x ∈ S, (Lit.int .u64 x).wf = true) (y1 : S.length * 8 ≤ 140737488351232) (h2 : (Lit.int .u8 s).wf = true) :
    Calls Try.prog 7 #[.slice A0 T.length c0, .slice A1 S.length c1, .int .u8 s] w fun e w' => e = .returned (.bool true) ∧ Below w.heap.size w w' := by
  obtain ⟨s0, s1⟩ := u8_bounds h2
  obtain ⟨n, hn⟩ : ∃ n, n = T.length := ⟨_, rfl⟩
  obtain ⟨m, hm⟩ : ∃ m, m = S.length := ⟨_, rfl⟩
  have HH := Lib.hid (⟨hn, hm, hr0, hr1, s0, s1⟩ : _ ∧ _ ∧ _ ∧ _ ∧ _ ∧ _)
  rw [← hn, ← hm]
  clear hn hm hr0 hr1 u0 u1 y0 y1 h2 s0 s1
  go_enter Try.func7, Try.ntmps7
  go_wp2_with fail
  refine (awake_any _).mono ?_
  rintro e w1 ⟨rfl, hC⟩
  have HC := Lib.hid hC
  clear hC
  have big : ∀ {K : World → Prop}, (∀ w2, Chg (fun _ => False) w w2 → K w2) → ∀ w2, Chg (fun _ => False) w1 w2 → K w2 := fun h w2 hC => h w2 (HC.out.trans hC (fun _ _ f => f))
  by_cases hnb : 100 < n
  · have hnb2 : (100 : Int) < n := by omega
    go_wp2_with fail
    refine (awake_any _).mono ?_
    rintro e w2 ⟨rfl, hC⟩
    have HC2 := Lib.hid (HC.out.trans hC (fun _ _ f => f))
    clear hC
    go_wp2
    go_ret
    exact ⟨rfl, HC2.out.below (fun k hk => ⟨hk, id⟩)⟩
  by_cases hmb : 100 < m
  · have hnb2 : ¬ (100 : Int) < n := by omega
    have hmb2 : (100 : Int) < m := by omega
    go_wp2_with fail
    refine (awake_any _).mono ?_
    rintro e w2 ⟨rfl, hC⟩
    have HC2 := Lib.hid (HC.out.trans hC (fun _ _ f => f))
    clear hC
    go_wp2
    go_ret
    exact ⟨rfl, HC2.out.below (fun k hk => ⟨hk, id⟩)⟩
  have hnb2 : ¬ (100 : Int) < n := by omega
  have hmb2 : ¬ (100 : Int) < m := by omega
  by_cases hR : Ris T ∧ T.length ≤ 100
  · have hnew := new_yes (w := w1) (A := A0) c0 (HH.out.2.2.1.chg HC.out (fun _ _ f => f)) hR.1 hR.2
    rw [← HH.out.1] at hnew
    have HRR := Lib.hid hR
    clear hR
    go_wp2_with fail
    refine hnew.mono ?_
    rintro e w2 ⟨g, bm, tv, rv, col, rfl, hv, hC, hcol⟩
    have hI : StV w g T 0 w2 := ⟨bm, tv, rv, _, col, hv, by simp, by simp, HC.out.trans hC (fun _ _ f => f), fun j hj => hcol j (Nat.lt_of_lt_of_le hj HC.out.size)⟩
    have HI := Lib.hid hI
    clear hI hv hC hcol hnew
    go_wp2
    go_loopw [32] (fun i wr => ∃ k : Nat, i = .int .i64 k ∧ k ≤ m ∧ Hid (StV w g T k wr)) (fun i _ => m - (intOf i).toNat)
    case atStart => exact ⟨0, rfl, Nat.zero_le _, HI⟩
    case round =>
      obtain ⟨k, rfl, hk, HK⟩ := hrel
      by_cases hkm : k < m
      · obtain ⟨bm, tv, rv, rows, col, hv, hl, hi, hCw, hcol⟩ := HK.out
        obtain ⟨hn, hm, hr0, hr1, s0, s1⟩ := HH.out
        have hfn : findV rows (k : Int) = none := by
          cases hf : findV rows (k : Int) with
          | none => rfl
          | some q =>
            obtain ⟨h1, h2⟩ := findV_some hf
            have := hi q h1
            omega
        obtain ⟨gs, o, rfl, hcell⟩ := ReadsI.plain (hr1.chg hCw (fun _ _ f => f)) (by intro e; rw [e] at hm; simp at hm; omega)
        have r0 := hcell k (by omega)
        obtain ⟨x, hx⟩ : ∃ x, x = S.getD k 0 := ⟨_, rfl⟩
        rw [← hx] at r0
        have hins := insert_any x hv hfn (by omega)
        have HF := Lib.hid (fun W' (hp : InsPost g bm tv rv T rows k col k x wr W') => StV.ins hl hi hCw hcol hp)
        clear hv hl hi hCw hcol hn hm hr0 hr1 s0 s1 hfn hcell hx
        go_wp2_with fail
        refine hins.mono ?_
        rintro e w3 ⟨rfl, hp⟩
        have HP := Lib.hid (HF.out _ hp)
        clear hp hins r0
        go_wp2
        go_roundw
        case rel => exact ⟨k + 1, by go_num, hkm, HP⟩
        case measure => simp [intOf]; omega
      · obtain rfl : k = m := by omega
        obtain ⟨bm, tv, rv, rows, col, hv, hl, hi, hCw, hcol⟩ := HK.out
        obtain ⟨hn, hm, hr0, hr1, s0, s1⟩ := HH.out
        have hL := all_len hv.ids
        have hRl := rows_len hv.bags
        have hw := wide_rows (rows := rows) (by omega)
        have hs1 := some_v hv hw (by omega) s0
        have hmin : min s ((allOf rows).length : Int) = min s k := by rw [hL, hl]
        have hcs : IntKind.i64.wrap s = s := by rw [wrap_i (by omega) (by omega)]
        have HF := Lib.hid (⟨hv, hl, hL, hRl, hw, hCw⟩ : _ ∧ _ ∧ _ ∧ _ ∧ _ ∧ _)
        rw [hmin] at hs1
        clear hv hl hi hcol hn hm hr0 hr1 hL hRl hw hCw hmin hkm hk
        by_cases hsk : s ≤ k
        · rw [show min s (k : Int) = s by omega] at hs1
          go_wp2_with fail
          refine hs1.mono ?_
          rintro e w3 ⟨rfl, hC3⟩
          obtain ⟨hv, hl, hL, hRl, hw, hCw⟩ := HF.out
          have hv3 := hv.keep hC3 (fun _ _ f => f.elim)
          have hs2 := some_v (N := 1000) hv3 hw (by omega) (by omega)
          rw [show min (1000 : Int) ((allOf rows).length : Int) = k by omega] at hs2
          have HF3 := Lib.hid (⟨hv3, hl, hRl, hw, hCw.trans hC3 (fun _ _ f => f)⟩ : _ ∧ _ ∧ _ ∧ _ ∧ _)
          clear hs1 hv hl hL hRl hw hCw hv3 hC3 HF
          go_wp2_with fail
          refine hs2.mono ?_
          rintro e w4 ⟨rfl, hC4⟩
          obtain ⟨hv, hl, hRl, hw, hCw⟩ := HF3.out
          have hv4 := hv.keep hC4 (fun _ _ f => f.elim)
          have hs3 := rows_list hv4 hw (by omega)
          have HF4 := Lib.hid (⟨hl, hRl, hCw.trans hC4 (fun _ _ f => f)⟩ : _ ∧ _ ∧ _)
          clear hs2 hv hl hRl hw hCw hv4 hC4 HF3
          go_wp2_with fail
          refine hs3.mono ?_
          rintro e w5 ⟨v, rfl, ho, hv5, hC5⟩
          obtain ⟨A, c, rfl, _, _, _, _⟩ := ho.form
          obtain ⟨hl, hRl, hCw⟩ := HF4.out
          rw [hRl, hl]
          have HF5 := Lib.hid (hCw.trans hC5 (fun _ _ f => f))
          clear hs3 ho hv5 hC5 hl hRl hCw HF4
          go_wp2
          go_ret
          exact ⟨rfl, HF5.out.below (fun k hk => ⟨hk, fun f => f⟩)⟩
        · rw [show min s (k : Int) = k by omega] at hs1
          go_wp2_with fail
          refine hs1.mono ?_
          rintro e w3 ⟨rfl, hC3⟩
          obtain ⟨hv, hl, hL, hRl, hw, hCw⟩ := HF.out
          have hv3 := hv.keep hC3 (fun _ _ f => f.elim)
          have hs2 := some_v (N := 1000) hv3 hw (by omega) (by omega)
          rw [show min (1000 : Int) ((allOf rows).length : Int) = k by omega] at hs2
          have HF3 := Lib.hid (⟨hv3, hl, hRl, hw, hCw.trans hC3 (fun _ _ f => f)⟩ : _ ∧ _ ∧ _ ∧ _ ∧ _)
          clear hs1 hv hl hL hRl hw hCw hv3 hC3 HF
          go_wp2_with fail
          refine hs2.mono ?_
          rintro e w4 ⟨rfl, hC4⟩
          obtain ⟨hv, hl, hRl, hw, hCw⟩ := HF3.out
          have hv4 := hv.keep hC4 (fun _ _ f => f.elim)
          have hs3 := rows_list hv4 hw (by omega)
          have HF4 := Lib.hid (⟨hl, hRl, hCw.trans hC4 (fun _ _ f => f)⟩ : _ ∧ _ ∧ _)
          clear hs2 hv hl hRl hw hCw hv4 hC4 HF3
          go_wp2_with fail
          refine hs3.mono ?_
          rintro e w5 ⟨v, rfl, ho, hv5, hC5⟩
          obtain ⟨A, c, rfl, _, _, _, _⟩ := ho.form
          obtain ⟨hl, hRl, hCw⟩ := HF4.out
          rw [hRl, hl]
          have HF5 := Lib.hid (hCw.trans hC5 (fun _ _ f => f))
          clear hs3 ho hv5 hC5 hl hRl hCw HF4
          go_wp2
          go_ret
          exact ⟨rfl, HF5.out.below (fun k hk => ⟨hk, fun f => f⟩)⟩
  · have hnew := new_no (w := w1) (A := A0) c0 (by have := HH.out.1; omega) (HH.out.2.2.1.chg HC.out (fun _ _ f => f)) hR
    rw [← HH.out.1] at hnew
    have HRR := Lib.hid hR
    clear hR
    go_wp2_with fail
    refine hnew.mono ?_
    rintro e w2 ⟨rfl, rfl⟩
    go_wp2
    go_ret
    exact ⟨rfl, HC.out.below (fun k hk => ⟨hk, id⟩)⟩
end Go.Proofs.Ythoagpagnldmeaa.V
namespace Go.Proofs.Ythoagpagnldmeaa
open Go.RowKit Go.Ps
theorem votersStop_walk (A0 : Option Addr) (c0 : Nat) (T : List Int) (A1 : Option Addr) (c1 : Nat) (S : List Int) (s : Int) (w : World) (hr0 : ReadsI w .u64 A0 T) (u0 : ∀ x ∈ T, (Lit.int .u64 x).wf = true) (y0 : T.length * 8 ≤ 140737488351232) (hr1 : ReadsI w .u64 A1 S) (u1 : ∀ x ∈ S, (Lit.int .u64 x).wf = true) (y1 : S.length * 8 ≤ 140737488351232) (h2 : (Lit.int .u8 s).wf = true) :
    Calls Try.prog 7 #[.slice A0 T.length c0, .slice A1 S.length c1, .int .u8 s] w fun e w' => e = .returned (.bool true) ∧ Below w.heap.size w w' := V.votersStop_walk A0 c0 T A1 c1 S s w hr0 u0 y0 hr1 u1 y1 h2
end Go.Proofs.Ythoagpagnldmeaa
