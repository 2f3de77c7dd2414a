/- Withdraw. -/
import Derived.Test.YtpndkelbchjkiaaLd
set_option linter.unusedVariables false
set_option linter.unusedSimpArgs false
namespace Go.Proofs.Ytpndkelbchjkiaa
open Go.RowKit Go.Ps
/-- What the chunks that aren't kept have together. -/
def wsum (era : Int) : Int → List (Int × Int) → Int
  | n, [] => n
  | n, x :: l => wsum era (if era < x.2 then n else (n + x.1) % 18446744073709551616) l
theorem wsum_snoc (era : Int) : ∀ (l : List (Int × Int)) (n : Int) (x : Int × Int), wsum era n (l ++ [x]) = if era < x.2 then wsum era n l else (wsum era n l + x.1) % 18446744073709551616
  | [], n, x => rfl
  | y :: l, n, x => by
    rw [List.cons_append, wsum, wsum, wsum_snoc era l]
def RW (be bn : Nat) (era : Int) (l : List (Int × Int)) (k : Nat) (W : World) : Prop :=
  W.heap[be]? = some (.cells #[.int .i64 era] 3 (0, 0)) ∧ W.heap[bn]? = some (.cells #[.int .u64 (wsum era 0 (l.take k))] 24 (0, 0))
set_option maxRecDepth 20000 in
set_option maxHeartbeats 1000000 in
theorem cls38 {be bn : Nat} {era : Int} {l : List (Int × Int)} (hne : be ≠ bn) : Cls 38 [.pointer (some ⟨be, 0, none⟩), .pointer (some ⟨bn, 0, none⟩)] l (fun x => !decide (era < x.2)) (RW be bn era l) (fun k => k = bn) := by
  intro k W hk hR
  obtain ⟨h1, h2⟩ := hR
  simp only [aggC, List.append_toArray, List.cons_append, List.nil_append]
  have hs := take_snocC l k hk
  have hw : wsum era 0 (l.take (k + 1)) = if era < (l.getD k d0).2 then wsum era 0 (l.take k) else (wsum era 0 (l.take k) + (l.getD k d0).1) % 18446744073709551616 := by rw [hs, wsum_snoc]
  unfold RW
  obtain ⟨T, hT⟩ : ∃ T, T = wsum era 0 (l.take (k + 1)) := ⟨_, rfl⟩
  rw [← hT] at hw ⊢
  obtain ⟨x, hx⟩ : ∃ x, x = l.getD k d0 := ⟨_, rfl⟩
  rw [← hx] at hw ⊢
  obtain ⟨n, hn⟩ : ∃ n, n = wsum era 0 (l.take k) := ⟨_, rfl⟩
  rw [← hn] at hw h2
  clear hT hx hn hs
  obtain ⟨x1, x2⟩ := x
  simp only at hw ⊢
  have hC : Chg (fun _ => False) W (W.alloc (.cells #[.int .u64 x1, .int .i64 x2] 38)) := (Chg.refl _ W).alloc _
  have k1 := chg_heap0 hC h1
  have k2 := chg_heap0 hC h2
  have l1 := heap_lt h1
  have l2 := heap_lt h2
  have c1 := cell_of k1 0 rfl
  have c2 := cell_of k2 0 rfl
  have f2 := frozen_of k2 0
  by_cases hd : era < x2
  · rw [if_pos hd] at hw
    have HF := Lib.hid (⟨hC, k1, k2, hw⟩ : _ ∧ _ ∧ _ ∧ _)
    clear hC k1 k2 hw h1 h2
    go_enter Try.func38, Try.ntmps38
    go_wp2
    go_ret
    obtain ⟨hC, k1, k2, hw⟩ := HF.out
    exact ⟨by simp [hd], ⟨k1, by rw [hw]; exact k2⟩, hC.mono (fun _ _ h => h.elim)⟩
  · rw [if_neg hd] at hw
    obtain ⟨m, hm⟩ : ∃ m, IntKind.u64.wrap (n + x1) = m := ⟨_, rfl⟩
    rw [← wrap64u, hm] at hw
    have HF := Lib.hid (⟨hC, h1, h2, hw⟩ : _ ∧ _ ∧ _ ∧ _)
    clear hC k1 k2 hw h1 h2
    go_enter Try.func38, Try.ntmps38
    go_wp2
    go_ret
    obtain ⟨hC, k1, k2, hw⟩ := HF.out
    refine ⟨by simp [hd], ⟨?_, ?_⟩, ?_⟩
    · refine heap_alloc_ne ?_
      rw [heap_setCell_ne hne]; exact k1
    · refine heap_alloc_ne ?_
      rw [hw, heap_setCell k2 0]; rfl
    · exact (Chg.setCell (F := fun k => k = bn) (p := ⟨bn, 0, none⟩) (Chg.refl _ W) (fun _ => rfl) _).alloc _
theorem Stp.setCh {tG tA tC : TypeId} {w w3 : World} {g b m : Nat} {V v' : Value} {L : List Row} {s : S} {hd : S → List Value} {ch' : List (Int × Int)} (hh : Hds hd) (h : LS tG tA tC hd w g V L s) (hm : m < L.length) (hb : V.ownBlock = some b)
    (hC : Chg (fun k => (L.getD m r0).v.ownBlock = some k) w w3) (hO : OwnF w3 tC 2 fch v' ch') (hk : ∀ k, v'.ownBlock = some k → (L.getD m r0).v.ownBlock = some k ∨ w.heap.size ≤ k) :
    Stp tG tA tC hd w (w3.setCell ⟨b, m * 4 + 3, none⟩ v') g V L { s with acc := s.acc.set m { s.acc.getD m a0 with ch := ch' } } := by
  obtain ⟨A', c', rfl, _⟩ := hO.form
  have hxx : (L.getD m r0).1 = s.acc.getD m a0 := by rw [← fst_getD, h.acc]
  have hcg : Chg (fun k => k = b) w3 (w3.setCell ⟨b, m * 4 + 3, none⟩ (.slice A' ch'.length c')) := Chg.setCell (F := fun k => k = b) (p := ⟨b, m * 4 + 3, none⟩) (Chg.refl _ _) (fun _ => rfl) _
  have hr := h.at_.rows.chg hC (fun k hk e => (h.at_.vs m k hm e).2 hk)
  have hr2 := OwnF.set layA hr hb hm (j := 3) (by omega) (d := r0) (mkR { s.acc.getD m a0 with ch := ch' } A' c') (.slice A' ch'.length c') (by
    rw [← hxx]
    rfl)
  have hne : ∀ k, Value.ownBlock (.slice A' ch'.length c') = some k → ¬ k = b := by
    rintro k hk2 rfl
    rcases hk k hk2 with e | e
    · exact (h.at_.vs m k hm e).2 hb
    · have := h.at_.rows.lt hb; omega
  have hrep := h.at_.rep hm (x := mkR { s.acc.getD m a0 with ch := ch' } A' c') ((hC.mono (fun k _ e => .inr e)).trans hcg (fun k _ e => .inl (e ▸ hb))) hr2 (hO.chg hcg hne) hk
  refine ⟨_, ⟨?_, ?_⟩, ?_, hrep.2⟩
  · rw [hh.iss]
    exact hrep.1
  · rw [List.map_set, h.acc]
    rfl
  · simp
theorem getD_setA (l : List Ac) (m : Nat) (x : Ac) (h : m < l.length) : (l.set m x).getD m a0 = x := by
  rw [List.getD_eq_getElem?_getD, List.getElem?_set_self h]
  rfl
def S.withdraw (s : S) (id era : Int) : S × Int × Int :=
  if s.bad id then (s, 0, 5)
  else ({ s with acc := s.acc.set id.toNat { s.acc.getD id.toNat a0 with ch := (s.acc.getD id.toNat a0).ch.filter (fun x => decide (era < x.2)), free := ((s.acc.getD id.toNat a0).free + wsum era 0 (s.acc.getD id.toNat a0).ch) % 18446744073709551616 } }, wsum era 0 (s.acc.getD id.toNat a0).ch, 0)
set_option maxRecDepth 20000 in
set_option maxHeartbeats 4000000 in
theorem withdraw_any {w : World} {g : Nat} {V : Value} {L : List Row} {s : S} (h : LS 64 34 38 S.hd w g V L s) (id era : Int) (hch : (s.acc.getD id.toNat a0).ch.length ≤ 1000) :
    Calls Try.prog 13 #[.pointer (some ⟨g, 0, none⟩), .int .i64 id, .int .i64 era] w fun e w' => e = .returned (.tuple #[.int .u64 (s.withdraw id era).2.1, .int .i64 (s.withdraw id era).2.2]) ∧ Stp 64 34 38 S.hd w w' g V L (s.withdraw id era).1 := by
  have hC0 : Chg (fun _ => False) w (w.alloc (.cells #[.int .i64 era] 3)) := (Chg.refl _ w).alloc _
  have hf := find_one (h.keep hC0) id
  simp only [World.size_alloc] at hf
  unfold S.withdraw
  by_cases h0 : s.bad id
  · simp only [if_pos h0] at hf ⊢
    have HL := Lib.hid (⟨h, hC0⟩ : _ ∧ _)
    clear h hch h0 hC0
    go_enter Try.func13, Try.ntmps13
    go_wp2_with fail
    refine hf.mono ?_
    rintro e w1 ⟨rfl, hC⟩
    have HC := Lib.hid hC
    clear hC hf
    go_wp2
    go_ret2
    exact ⟨rfl, Stp.refl HL.out.1 (HL.out.2.trans HC.out (fun _ _ h => h))⟩
  · simp only [if_neg h0] at hf ⊢
    obtain ⟨m, rfl⟩ : ∃ m : Nat, id = (m : Int) := ⟨id.toNat, by unfold S.bad at h0; omega⟩
    have hm : m < s.acc.length := by unfold S.bad at h0; omega
    simp only [Int.toNat_natCast] at hch ⊢
    have hmL : m < L.length := by rw [h.len]; exact hm
    obtain ⟨b, c, A, cc, e1, e2, e3, hcells⟩ := h.cells hmL
    have HS := Lib.hid (⟨h, hm, hmL, hch, e2, e3⟩ : _ ∧ _ ∧ _ ∧ _ ∧ _ ∧ _)
    obtain ⟨n, hn⟩ : ∃ n, n = L.length := ⟨_, rfl⟩
    rw [← hn] at hmL e1 hcells
    obtain ⟨a, ha⟩ : ∃ a, a = s.acc.getD m a0 := ⟨_, rfl⟩
    rw [← ha] at hcells HS ⊢
    have HA := Lib.hid ha
    obtain ⟨cn, hcn⟩ : ∃ n, n = a.ch.length := ⟨_, rfl⟩
    rw [← hcn] at hcells HS
    have HCN := Lib.hid hcn
    obtain ⟨be, hbe⟩ : ∃ be, be = w.heap.size := ⟨_, rfl⟩
    have hbe0 : (w.alloc (.cells #[.int .i64 era] 3)).heap[be]? = some (.cells #[.int .i64 era] 3 (0, 0)) := by rw [hbe]; exact heap_alloc_at _ _
    obtain ⟨T, hT⟩ : ∃ T, T = wsum era 0 a.ch := ⟨_, rfl⟩
    rw [← hT]
    obtain ⟨z, hz⟩ : ∃ z, IntKind.u64.wrap (a.free + T) = z := ⟨_, rfl⟩
    rw [← wrap64u, hz]
    have HT := Lib.hid hT
    clear h h0 hm hch hn e1 ha hcn e2 e3 hT
    go_enter Try.func13, Try.ntmps13
    go_wp2_with fail
    refine hf.mono ?_
    rintro e w1 ⟨rfl, hC⟩
    have k0 := chg_heap0 hC hbe0
    have hC1 := hC0.trans hC (fun _ _ h => h)
    rw [← hbe]
    have hC2 : Chg (fun _ => False) w (w1.alloc (.cells #[.int .u64 0] 24)) := hC1.alloc _
    obtain ⟨k1, -, -, -, -⟩ := hcells w1 hC1
    obtain ⟨-, c0, c1, c2, c3⟩ := hcells _ hC2
    have k2 : (w1.alloc (.cells #[.int .u64 0] 24)).heap[be]? = some (.cells #[.int .i64 era] 3 (0, 0)) := heap_alloc_ne k0
    have k3 : (w1.alloc (.cells #[.int .u64 0] 24)).heap[w1.heap.size]? = some (.cells #[.int .u64 0] 24 (0, 0)) := heap_alloc_at _ _
    have hbn : be ≠ w1.heap.size := by have := heap_lt k0; omega
    have hsz := hC1.size
    have hszA : (w1.alloc (.cells #[.int .u64 0] 24)).heap.size = w1.heap.size + 1 := by simp
    obtain ⟨bn, hbn2⟩ : ∃ bn, bn = w1.heap.size := ⟨_, rfl⟩
    rw [← hbn2] at k3 hbn hszA
    obtain ⟨W2, hW2⟩ : ∃ W2, W2 = w1.alloc (.cells #[.int .u64 0] 24) := ⟨_, rfl⟩
    rw [← hW2] at hC2 c0 c1 c2 k2 k3 hszA
    obtain ⟨hL, hm, hmL2, hch, e2, e3⟩ := HS.out
    have hrow : OwnF W2 38 2 fch (.slice A cn cc) a.ch := by
      have := (hL.at_.chs m hmL2).chg hC2 (fun _ _ => id)
      rw [e2, show (L.getD m r0).1 = a by rw [← fst_getD, hL.acc, ← HA.out]] at this
      exact this
    have hown : ∀ k, Value.ownBlock (.slice A cn cc) = some k → k < w.heap.size := fun k hk => by rw [← e2] at hk; exact (hL.at_.chs m hmL2).lt hk
    have hdel := delete37_38 (pe := ⟨be, 0, none⟩) (pn := ⟨bn, 0, none⟩) (w := W2) (v := .slice A cn cc) (l := a.ch) (R := RW be bn era a.ch) (cls38 hbn) hrow (fun k hk e => by have := hown k hk; omega) (fun k e => by rw [e]; omega)
      (fun k W W' hR hCW => ⟨(hCW.block be (heap_lt hR.1) (fun e => by have := hown be e; omega)).trans hR.1, (hCW.block bn (heap_lt hR.2) (fun e => by have := hown bn e; omega)).trans hR.2⟩) ⟨k2, k3⟩ (by rw [← HCN.out]; exact hch)
    have HF := Lib.hid (⟨hC2, hown, hsz, hbn2⟩ : _ ∧ _ ∧ _ ∧ _)
    have HW2 := Lib.hid hW2
    clear hC hC0 hC1 k0 hbe0 hf hbe k2 k3 hbn hsz hszA hC2 hL hm hmL2 hch e2 e3 hrow hown hW2 hcells c0 c1 c2
    go_wp2_with fail
    rw [← HF.out.2.2.2, ← HW2.out]
    refine hdel.mono ?_
    rintro e w3 ⟨v', rfl, hO3, hR3, hC3, hk3⟩
    obtain ⟨A3, n3, c3', rfl⟩ : ∃ A n c, v' = .slice A n c := by obtain ⟨A', c', e, _⟩ := hO3.form; exact ⟨_, _, _, e⟩
    obtain ⟨hL, hm, hmL2, hch, e2, e3⟩ := HS.out
    obtain ⟨hC2, hown, hsz, -⟩ := HF.out
    have hC3' : Chg (fun k => (L.getD m r0).v.ownBlock = some k) w w3 := (hC2.mono (fun _ _ h => h.elim)).trans hC3 (fun k hk e => by
      rcases e with e | e
      · rw [e2]; exact e
      · omega)
    have hx3 := hL.at_.rows.chg hC3' (fun k hk e => (hL.at_.vs m k hmL2 e).2 hk)
    obtain ⟨b', _, cur3, q1, q2, q3, _, _, q6⟩ := hx3.at_ layA r0 (by omega)
    obtain rfl : b = b' := by have := e3.symm.trans q2; simpa using this
    obtain ⟨uu, huu⟩ : ∃ u, u = (L.getD m r0).v := ⟨_, rfl⟩
    have u3 : w3.cell? ⟨b, m * 4 + 3, none⟩ = some uu := cell_of q3 _ ((q6 m 3 hmL2 (by omega)).trans (by rw [huu]; rfl))
    have y3 := frozen_of q3 (m * 4 + 3)
    have hS4 := Stp.setCh hds hL hmL2 e3 hC3' hO3 (fun k hk => .inl (by rw [e2]; rw [hk3] at hk; exact hk))
    have hCb : Chg (fun k => k = b) w3 (w3.setCell ⟨b, m * 4 + 3, none⟩ (.slice A3 n3 c3')) := Chg.setCell (F := fun k => k = b) (p := ⟨b, m * 4 + 3, none⟩) (Chg.refl _ _) (fun _ => rfl) _
    have hbw : b < w.heap.size := hL.at_.rows.lt e3
    have hn4 := (hCb.block bn (heap_lt hR3.2) (by omega)).trans hR3.2
    rw [List.take_length] at hn4
    have hfn : (a.ch.filter fun x => !(!decide (era < x.2))) = a.ch.filter (fun x => decide (era < x.2)) := by simp
    rw [hfn, ← HA.out] at hS4
    obtain ⟨W4, hW4⟩ : ∃ W4, W4 = w3.setCell ⟨b, m * 4 + 3, none⟩ (.slice A3 n3 c3') := ⟨_, rfl⟩
    rw [← hW4] at hn4 hS4
    have hS4 := hS4.more ((Chg.refl _ W4).drew)
    have hn4 : W4.drew.heap[bn]? = some (.cells #[.int .u64 (wsum era 0 a.ch)] 24 (0, 0)) := hn4
    obtain ⟨W5, hW5⟩ : ∃ W5, W5 = W4.drew := ⟨_, rfl⟩
    rw [← hW5] at hn4 hS4
    obtain ⟨L4, hL4, hlen4, _⟩ := id hS4
    have hbw4 : ∀ i, i < L4.length → V.ownBlock = some b := fun _ _ => e3
    have hP : S.ok { s with acc := s.acc.set m { a with ch := a.ch.filter (fun x => decide (era < x.2)) } } (.acc m 0) := ⟨by simpa using hm, by omega⟩
    have hgd : (s.acc.set m { a with ch := a.ch.filter (fun x => decide (era < x.2)) }).getD m a0 = { a with ch := a.ch.filter (fun x => decide (era < x.2)) } := getD_setA _ _ _ hm
    obtain ⟨g0, gf0⟩ := hL4.get hds hP hbw4
    have hg1 : S.get { s with acc := s.acc.set m { a with ch := a.ch.filter (fun x => decide (era < x.2)) } } (.acc m 0) = a.free := by
      show Ac.get ((s.acc.set m _).getD m a0) 0 = _
      rw [hgd]; rfl
    rw [hg1] at g0
    have g1 := cell_of hn4 0 rfl
    simp only [adr, Nat.add_zero] at g0 gf0
    rw [← HT.out] at g1
    have hfin : Hid (Stp 64 34 38 S.hd w (W5.setCell ⟨b, m * 4, none⟩ (.int .u64 z)) g V L { s with acc := s.acc.set m { a with ch := a.ch.filter (fun x => decide (era < x.2)), free := z } }) := Lib.hid (by
      refine hS4.then (fun L' hL' hlen => ?_)
      have := Stp.put hds hL' hP (fun _ _ => e3) z
      have he : S.put { s with acc := s.acc.set m { a with ch := a.ch.filter (fun x => decide (era < x.2)) } } z (.acc m 0) = { s with acc := s.acc.set m { a with ch := a.ch.filter (fun x => decide (era < x.2)), free := z } } := by
        show { s with acc := (s.acc.set m _).set m (Ac.put ((s.acc.set m _).getD m a0) z 0) } = _
        rw [hgd, List.set_set]
        rfl
      rw [he] at this
      simpa [adr] using this)
    have hfz : Hid (∀ x, (W5.setCell ⟨b, m * 4, none⟩ (.int .u64 x)).cell? ⟨bn, 0, none⟩ = some (.int .u64 T)) := Lib.hid (fun x => by
      rw [World.cell?_setCell_other _ _ _ _ (fun e => by have := congrArg Addr.block e; simp at this; omega)]
      exact g1)
    have HW4 := Lib.hid (⟨hW4, hW5⟩ : _ ∧ _)
    clear hO3 hR3 hC3 hk3 hL hm hmL2 hch e2 e3 hC2 hown hsz hbn2 hC3' hx3 q1 q2 q3 q6 huu hS4 hCb hbw hn4 hfn hW4 hW5 hL4 hlen4 hbw4 hP hgd hg1 HF HS HA HCN HW2 k1 c3 hdel HT
    go_wp2_with fail
    rw [← HW4.out.1]
    refine J.wp_region_seq (fun W => W.cell? ⟨b, m * 4, none⟩ = some (.int .u64 a.free) ∧ W.cell? ⟨bn, 0, none⟩ = some (.int .u64 T)) [(0, 0), (1, 0), (2, 0), (3, 0), (4, 0), (5, 0), (6, 0), (7, 0), (8, 1)] (by kernel_rfl) (by kernel_rfl) (by kernel_rfl) (by rw [← HW4.out.2]; exact ⟨g0, g1⟩) ?_
    iterate 8 (apply J.look (by rfl) (by rfl); (focus (intro W hW; obtain ⟨hW0, hW1⟩ := hW; go_simp; exact HasV.val rfl)); simp only [Act.put, List.setIfInBounds_toArray, List.set_cons_zero, List.set_cons_succ])
    rw [← HW4.out.2]
    refine J.final (fun u W => u = undef ∧ W = W5.setCell ⟨b, m * 4, none⟩ (.int .u64 z)) (by rfl) (by rfl) (by kernel_rfl) ?_ ?_
    · go_simp
      exact J.HasR.skip ⟨rfl, rfl⟩
    rintro u W ⟨rfl, rfl⟩
    simp only [Act.put, List.setIfInBounds_toArray, List.set_cons_zero, List.set_cons_succ]
    refine J.fin ?_
    have hfz := hfz.out z
    go_wp2
    go_ret2
    exact ⟨rfl, hfin.out⟩
end Go.Proofs.Ytpndkelbchjkiaa
