/- Voters: going through all. -/
import Derived.Test.YthoagpagnldmeaaVx
set_option linter.unusedVariables false
set_option linter.unusedSimpArgs false
namespace Go.Proofs.Ythoagpagnldmeaa.V
open Go.RowKit Go.Ps
attribute [local go_sem] Oper.semAt_some
theorem roundIn_deep {n m k : Nat} {P : Program} {l f : Nat} {tmps : Array Value} {assign body : Code} {w : World} {R : Ending → World → Prop} (h : RoundIn Fence.wide n P l f tmps assign body w R) : RoundIn (Fence.wide.inRound k) m P l f tmps assign body w R :=
  ⟨h.1, fun c cs _ => h.2 c cs (room_wide _)⟩
theorem KeepsFrom.le {m m' : Nat} {W W' : World} (h : KeepsFrom m W W') (hm : m ≤ m') : KeepsFrom m' W W' := ⟨h.size, fun k o h1 h2 h3 => h.same k o (Nat.le_trans hm h1) h2 h3⟩
def stakeOf (rows : List (List Vo)) (id : Int) : Int := ((findV rows id).map (·.stake)).getD 0
def fA (rows : List (List Vo)) (id : Int) : Int × Int := (id, stakeOf rows id)
def idsOf (bs : List (Int × List Int)) : List Int := bs.flatMap (·.2)
def allOf (rows : List (List Vo)) : List (Int × Int) := (idsOf (bagsOf rows rows.length)).map (fA rows)
theorem mem_bags {rows : List (List Vo)} : ∀ {n : Nat} {k : Int × List Int}, k ∈ bagsOf rows n → ∀ id ∈ k.2, ∃ p ∈ rows.flatten, p.id = id
  | 0, k, h => by simp [bagsOf] at h
  | n + 1, k, h => by
    intro id hid
    unfold bagsOf at h
    rcases List.mem_append.1 h with h | h
    · split at h
      · simp at h
      · rw [List.mem_singleton.1 h] at hid
        obtain ⟨p, hp, rfl⟩ := List.mem_map.1 hid
        refine ⟨p, List.mem_flatten.2 ⟨_, ?_, hp⟩, rfl⟩
        rw [List.getD_eq_getElem?_getD] at hp ⊢
        cases hr : rows[n]? with
        | none => rw [hr] at hp; simp at hp
        | some l => exact List.mem_of_getElem? hr
    · exact mem_bags h id hid
theorem findV_ex {rows : List (List Vo)} {id : Int} (h : ∃ p ∈ rows.flatten, p.id = id) : ∃ p, findV rows id = some p := by
  obtain ⟨p, hp, he⟩ := h
  cases hf : findV rows id with
  | some q => exact ⟨q, rfl⟩
  | none => exact absurd he (findV_none hf p hp)
theorem kp_refl {n₀ M B : Nat} (W : World) : Kp n₀ M B W W := ⟨Nat.le_refl _, fun k o h _ _ => h, fun k o h _ _ => h, fun k h => .inl h⟩
/-- What the loop over the bags' voters keeps. -/
structure AI (n₀ M B cb yb : Nat) (col : Nat → Nat) (J : List (Int × Int) → World → Prop) (U : World) (P : List (Int × Int)) (V : World) : Prop where
  j : J P V
  same : ∀ k, (k = cb ∨ k = yb ∨ col k ≠ 0) → V.heap[k]? = U.heap[k]? ∧ Safe n₀ M B V k
  live : Live B V
  size : U.heap.size ≤ V.heap.size
theorem AI.kp {n₀ M B cb yb : Nat} {col : Nat → Nat} {J : List (Int × Int) → World → Prop} {U V V' : World} {P P' : List (Int × Int)} (h : AI n₀ M B cb yb col J U P V) (hj : J P' V') (hk : Kp n₀ M B V V') : AI n₀ M B cb yb col J U P' V' :=
  ⟨hj, fun k hk' => by
    obtain ⟨h1, h2⟩ := h.same k hk'
    obtain ⟨h3, h4⟩ := h2.kp hk
    exact ⟨h3.trans h1, h4⟩, h.live.kp hk, Nat.le_trans h.size hk.size⟩
theorem AI.own {n₀ M B cb yb m : Nat} {col : Nat → Nat} {J : List (Int × Int) → World → Prop} {U : World} {α : Type} (f : α → List (Int × Int)) (hm : m ≤ U.heap.size) (hJ : OwnFrom m J) (hB : B < U.heap.size) : OwnFrom U.heap.size (fun s V => AI n₀ M B cb yb col J U (f s) V) := by
  intro s A A' row h hg hr
  have hbl : ∀ k, k < U.heap.size → k < A.heap.size → A'.heap[k]? = A.heap[k]? := fun k h1 h2 => hg.block k h2 (fun e => by have := (hr k e.symm).1; omega)
  have hBB := hbl B hB h.live.1
  refine ⟨hJ _ A A' row h.j hg (fun k e => by obtain ⟨h1, h2⟩ := hr k e; exact ⟨by omega, h2⟩), fun k hk => ?_, h.live.same hg.size hBB, Nat.le_trans h.size hg.size⟩
  obtain ⟨h1, h2⟩ := h.same k hk
  have h3 : k < A.heap.size := by obtain ⟨o, h3, _⟩ := h2; exact heap_lt h3
  have h4 : k < U.heap.size := by obtain ⟨o, h4, _⟩ := h2; rw [h1] at h4; exact heap_lt h4
  have h5 := hbl k h4 h3
  exact ⟨h5.trans h1, h2.same h5 hBB⟩
theorem pre_all {rows : List (List Vo)} {pre : List Bag1} {x : Bag1} (h : (pre ++ [x]).map keyB <+: bagsOf rows rows.length) : pre.flatMap (fun x => x.2.2.map (fA rows)) ++ x.2.2.map (fA rows) <+: allOf rows := by
  obtain ⟨t, h⟩ := h
  refine ⟨(idsOf t).map (fA rows), ?_⟩
  unfold allOf idsOf
  rw [← h]
  simp [List.flatMap_append, List.flatMap_map, List.map_flatMap, keyB]
theorem len_bags {rows : List (List Vo)} (hrl : ∀ l ∈ rows, l.length ≤ 1000) : ∀ {n : Nat} {k : Int × List Int}, k ∈ bagsOf rows n → k.2.length ≤ 1000
  | 0, k, h => by simp [bagsOf] at h
  | n + 1, k, h => by
    unfold bagsOf at h
    rcases List.mem_append.1 h with h | h
    · split at h
      · simp at h
      · rw [List.mem_singleton.1 h]
        show ((rows.getD n []).map (·.id)).length ≤ 1000
        rw [List.length_map, List.getD_eq_getElem?_getD]
        cases hr : rows[n]? with
        | none => simp
        | some l => exact hrl l (List.mem_of_getElem? hr)
    · exact len_bags hrl h
theorem ids_ex {rows : List (List Vo)} {pre : List Bag1} {x : Bag1} (h : (pre ++ [x]).map keyB <+: bagsOf rows rows.length) {id : Int} (hid : id ∈ x.2.2) : ∃ p, findV rows id = some p := by
  have hm : keyB x ∈ bagsOf rows rows.length := h.subset (by simp)
  exact findV_ex (mem_bags hm id hid)
/-- What the loop over a bag's voters keeps. -/
def LI (n₀ M B cb yb : Nat) (col : Nat → Nat) (J : List (Int × Int) → World → Prop) (rows : List (List Vo)) (U V0 : World) (P : List (Int × Int)) (ids : List Int) (j : Nat) (V : World) : Prop :=
  j ≤ ids.length ∧ AI n₀ M B cb yb col J U (P ++ (ids.take j).map (fA rows)) V ∧ Kp n₀ M B V0 V
set_option maxRecDepth 20000 in
set_option maxHeartbeats 8000000 in
theorem all_seq {n n₀ M B cb g bm : Nat} {tv rv : Value} {T : List Int} {rows : List (List Vo)} {N : Int} {col : Nat → Nat} {w : World} (hn : 3 ≤ n) (hcb : w.heap[cb]? = some (.cells #[.pointer (some ⟨g, 0, none⟩)] 64 (0, 0))) (hv : VM w g bm tv rv T rows N col) (hrl : ∀ l ∈ rows, l.length ≤ 1000)
    (hn₀ : ∀ k, col k ≠ 0 → k < n₀) (hnw : n₀ ≤ w.heap.size) (hB : Live B w) (hown : ∀ k, (k = cb ∨ col k ≠ 0) → ¬ Box B w k) :
    SeqO Fence.wide n Try.prog 89 #[.pointer (some ⟨cb, 0, none⟩)] encA (Kp n₀ M B) (fun _ _ _ => True) (fun xs => xs = allOf rows) (fun pre => pre <+: allOf rows) (allOf rows).length M w := fun l J Jx W hW hM hJ hJx hY h0 => by
  have hcbW : W.heap[cb]? = some (.cells #[.pointer (some ⟨g, 0, none⟩)] 64 (0, 0)) := (hW.block cb (heap_lt hcb)).trans hcb
  have hvW : VM W g bm tv rv T rows N col := hv.same hW.size (fun k hk => hW.block k (hv.top hk))
  have hBW : Live B W := hB.same hW.size (hW.block B hB.1)
  have hownW : ∀ k, (k = cb ∨ col k ≠ 0) → ¬ Box B W k := fun k hk hb => hown k hk (hb.same (hW.block B hB.1))
  have hnW : n₀ ≤ W.heap.size := Nat.le_trans hnw hW.size
  obtain ⟨n0, hn0⟩ : ∃ n0, n0 = W.heap.size := ⟨_, rfl⟩
  obtain ⟨W1, hW1⟩ : ∃ W1, W1 = W.alloc (.cells #[.func (.yield l) #[] #[]] 135) := ⟨_, rfl⟩
  obtain ⟨W2, hW2⟩ : ∃ W2, W2 = W1.alloc (.cells #[.pointer (some ⟨g, 0, none⟩)] 64) := ⟨_, rfl⟩
  have hs1 : W1.heap.size = n0 + 1 := by rw [hW1, hn0]; simp
  have hs2 : W2.heap.size = n0 + 2 := by rw [hW2]; simp [hs1]
  have hC1 : Chg (fun _ => False) W W1 := by rw [hW1]; exact (Chg.refl _ W).alloc _
  have hC2 : Chg (fun _ => False) W W2 := by rw [hW2]; exact hC1.alloc _
  have hy2 : W2.heap[n0]? = some (.cells #[.func (.yield l) #[] #[]] 135 (0, 0)) := by rw [hW2, hW1, hn0]; exact heap_alloc_ne (heap_alloc_at _ _)
  have hb2 : W2.heap[n0 + 1]? = some (.cells #[.pointer (some ⟨g, 0, none⟩)] 64 (0, 0)) := by rw [hW2, ← hs1]; exact heap_alloc_at _ _
  have hcb2 := chg_heap0 hC2 hcbW
  have hc1 : (W.alloc (.cells #[.func (.yield l) #[] #[]] 135)).cell? ⟨cb, 0, none⟩ = some (.pointer (some ⟨g, 0, none⟩)) := cell_of (heap_alloc_ne hcbW) 0 rfl
  have hv2 : VM W2 g bm tv rv T rows N col := hvW.keep hC2 (fun _ _ f => f.elim)
  have hB2 : Live B W2 := hBW.calm hC2
  have hbox : ∀ k, Box B W2 k → Box B W k := fun k h => h.same (hC2.block B hBW.1 id)
  have hown2 : ∀ k, (k = cb ∨ col k ≠ 0) → ¬ Box B W2 k := fun k hk hb => hownW k hk (hbox k hb)
  have hnb : ∀ k, n0 ≤ k → ¬ Box B W2 k := fun k hk hb => by have := hBW.2 k (hbox k hb); omega
  have hst := bags_seq (n := n - 1) (n₀ := n₀) (M := W2.heap.size + 2) (B := B) (cb := n0 + 1) (by omega) hb2 hv2 hrl hn₀ hB2 (fun k hk => by
    rcases hk with rfl | hk
    · exact hnb _ (by omega)
    · exact hown2 k (.inr hk))
  have hI0 : AI n₀ M B cb n0 col J W2 [] W2 := ⟨hJ _ _ _ none h0 (grownBy_of_chg hC2) (fun r e => by cases e), fun k hk => ⟨rfl, by
    rcases hk with rfl | rfl | hk
    · exact ⟨_, hcb2, .inl ⟨rfl, hown2 _ (.inl rfl)⟩⟩
    · exact ⟨_, hy2, .inl ⟨rfl, hnb _ (Nat.le_refl _)⟩⟩
    · exact hv2.safe hk (hn₀ k hk) (hown2 k (.inr hk))⟩, hB2, Nat.le_refl _⟩
  have hIo := AI.own (n₀ := n₀) (M := M) (B := B) (cb := cb) (yb := n0) (col := col) (U := W2) (fun pre : List Bag1 => pre.flatMap (fun x => x.2.2.map (fA rows))) (by omega) hJ hB2.1
  have hkb := fun V l o o' h1 h2 h3 h4 => kp_b (n₀ := n₀) (M := W2.heap.size + 2) (B := B) (m := W2.heap.size) (by omega) (by omega) hB2.1 V l o o' h1 h2 h3 h4
  have HH := Lib.hid (⟨hrl, hJ, hJx, hY, hM, hn0, hs2, hy2, hcb2, hv2, hB2, hI0, hIo, hkb, hn⟩ : _ ∧ _ ∧ _ ∧ _ ∧ _ ∧ _ ∧ _ ∧ _ ∧ _ ∧ _ ∧ _ ∧ _ ∧ _ ∧ _ ∧ _)
  have HST := Lib.hid hst
  have HW1 := Lib.hid hW1
  have HW2 := Lib.hid hW2
  refine callsIn_of_wp_marks Try.func89 rfl trivial ?_ rfl
  simp only [Try.ntmps89, List.size_toArray, List.length_cons, List.length_nil, Nat.reduceAdd, Nat.reduceSub, Array.replicate_succ, Array.replicate_zero, List.push_toArray, List.append_toArray, List.nil_append, List.cons_append]
  clear hcb hv hrl hn₀ hnw hB hown hW hM hJ hJx hY h0 hcbW hvW hBW hownW hnW hn0 hW1 hW2 hs1 hs2 hC1 hC2 hy2 hb2 hcb2 hv2 hB2 hbox hown2 hnb hst hI0 hIo hkb
  gi_wp2_with fail
  refine ⟨trivial, (fun h => by cases h), (callsIn_wide.2 (bags80 _ _)).mono ?_⟩
  rintro e w' ⟨rfl, rfl⟩
  clear hc1
  gi_wp2_with fail
  rw [← HW1.out, ← HW2.out, ← HH.out.2.2.2.2.2.1]
  have HW1s := HW1
  refine wpIn_rangeFunc_o rfl (by omega) (gf := 90) (lb := #[.pointer (some ⟨n0 + 1, 0, none⟩)]) rfl trivial (enters_of Try.func90 (by kernel_rfl) rfl)
    HST.out (fun h k => Kp.trans h k) (fun V l o o' h1 h2 h3 h4 => HH.out.2.2.2.2.2.2.2.2.2.2.2.2.2.1 V l o o' h1 h2 h3 h4) (Below.refl _ _) (fun _ => rfl)
    ?hCb (fun pre V => AI n₀ M B cb n0 col J W2 (pre.flatMap (fun x => x.2.2.map (fA rows))) V) (fun c _ V => c = .ret ∧ ∃ p, p <+: allOf rows ∧ Jx p V) HH.out.2.2.2.2.2.2.2.2.2.2.2.2.1 ?hIx HH.out.2.2.2.2.2.2.2.2.2.2.2.1 ?a1 ?assign ?body ?done ?stop
  case hCb =>
    rintro pre x V k o o' hk ho hoc ⟨h1, h2, h3⟩
    have hBlt := HH.out.2.2.2.2.2.2.2.2.2.2.1.1
    refine ⟨OwnF.turned h1 (grownBy_putObj' V k o') (fun r e => by cases e; exact ⟨o, ho, hoc⟩), fun j hj hb => h2 j hj (hb.same (World.putObj_heap_other (by omega))), h3⟩
  case hIx =>
    rintro c s A A' row ⟨h1, p, h2, h3⟩ hg hr
    refine ⟨h1, p, h2, HH.out.2.2.1 p A A' row h3 hg (fun k e => by obtain ⟨h4, h5⟩ := hr k e; exact ⟨by have := HH.out; omega, h5⟩)⟩
  case assign =>
    intro l x V K hK
    simp only [encC]
    gi_wp2
    exact hK
  case body =>
    rintro l' pre x V hA hlt ⟨hoF, hnbx, hpre⟩
    obtain ⟨P, hP⟩ : ∃ P, P = pre.flatMap (fun x => x.2.2.map (fA rows)) := ⟨_, rfl⟩
    have hpa := pre_all hpre
    have hex := fun id hid => ids_ex (id := id) hpre hid
    have hfin : (pre ++ [x]).flatMap (fun x => x.2.2.map (fA rows)) = P ++ x.2.2.map (fA rows) := by rw [hP]; simp
    rw [← hP] at hA hpa
    obtain ⟨k, v, ids⟩ := x
    dsimp only at hoF hnbx hpa hex hfin ⊢
    obtain ⟨A, c, hvv, _, _, _, _⟩ := hoF.form
    obtain ⟨m, hm⟩ : ∃ m, m = ids.length := ⟨_, rfl⟩
    rw [← hm] at hvv
    have hml : m ≤ 1000 := by
      rw [hm]
      exact len_bags HH.out.1 (k := (k, ids)) (hpre.subset (by simp [keyB]))
    have HB := Lib.hid (⟨hA, hoF, hnbx, hpa, hex, hfin, hm, hvv⟩ : _ ∧ _ ∧ _ ∧ _ ∧ _ ∧ _ ∧ _ ∧ _)
    subst hvv
    clear hA hlt hoF hnbx hpre hP hpa hex hfin hm
    gi_wp2_with fail
    refine wpIn_loop (fun a Vx => ∃ (j : Nat) (u6 u7 u8 u16 u17 u18 u19 u20 u21 u22 u23 u24 u25 u26 u27 u28 u29 u30 u31 u32 u33 : Value), a = { tmps := #[.func (.yield l) #[] #[], .pointer (some ⟨cb, 0, none⟩), .pointer (some ⟨n0, 0, none⟩), undef, .slice A m c, undef, u6, u7, u8, .pointer (some ⟨g, 0, none⟩), .func (.func 90) #[] #[.pointer (some ⟨n0 + 1, 0, none⟩)], .int .i64 k, .slice A m c, .slice A m c, .int .i64 m, .int .i64 j, u16, u17, u18, u19, u20, u21, u22, u23, u24, u25, u26, u27, u28, u29, u30, u31, u32, u33], defers := [] } ∧ Hid (LI n₀ M B cb n0 col J rows W2 V P ids j Vx)) (fun a Vx => m - (intOf (a.tmps.getD 15 undef)).toNat) ?start ?round
    case start => exact ⟨0, _, _, _, _, _, _, _, _, _, _, _, _, _, _, _, _, _, _, _, _, _, rfl, Lib.hid ⟨Nat.zero_le _, by simpa using HB.out.1, kp_refl _⟩⟩
    case round =>
      rintro a Vx ⟨j, u6, u7, u8, u16, u17, u18, u19, u20, u21, u22, u23, u24, u25, u26, u27, u28, u29, u30, u31, u32, u33, rfl, HI⟩
      by_cases hjm : j < m
      · obtain ⟨hj, hAI, hKp⟩ := HI.out
        obtain ⟨hA, hoF, hnbx, hpa, hex, hfin, hm, -⟩ := HB.out
        obtain ⟨hrl, hJ, hJx, hY, hM, hn0, hs2, hy2, hcb2, hv2, hB2, hI0, hIo, hkb, hn⟩ := HH.out
        have hjl : j < ids.length := by omega
        obtain ⟨gs, cr, cur, hvv, hvo, hcbk, _, _, hcc⟩ := hoF.at_ layI 0 (by omega)
        simp only [Value.slice.injEq] at hvv
        obtain ⟨rfl, -, rfl⟩ := hvv
        have hsV : Safe n₀ M B V gs := ⟨_, hcbk, .inl ⟨rfl, hnbx gs hvo⟩⟩
        have hcell := hcc j 0 hjl (by omega)
        obtain ⟨id, hid⟩ : ∃ id, id = ids.getD j 0 := ⟨_, rfl⟩
        have hide : ids[j]? = some id := by rw [hid, List.getD_eq_getElem?_getD, List.getElem?_eq_getElem hjl]; rfl
        have r_s : Vx.cell? ⟨gs, j, none⟩ = some (.int .i64 id) := by
          rw [World.cell?_of_block (hsV.kp hKp).1]
          rw [Nat.mul_one, Nat.add_zero] at hcell
          refine cell_of hcbk j ?_
          rw [hcell, List.getD_eq_getElem?_getD, hide]
          rfl
        have r_cb : Vx.cell? ⟨cb, 0, none⟩ = some (.pointer (some ⟨g, 0, none⟩)) := cell_of ((hAI.same cb (.inl rfl)).1.trans hcb2) 0 rfl
        have r_y : Vx.cell? ⟨n0, 0, none⟩ = some (.func (.yield l) #[] #[]) := cell_of ((hAI.same n0 (.inr (.inl rfl))).1.trans hy2) 0 rfl
        have hvx : VM Vx g bm tv rv T rows N col := hv2.same hAI.size (fun k hk => (hAI.same k (.inr (.inr hk))).1)
        have hidm : id ∈ ids := List.mem_of_getElem? hide
        obtain ⟨p, hp⟩ := hex id hidm
        have hst := stake_yes hvx hp
        obtain ⟨st, hst2⟩ : ∃ st, st = p.stake := ⟨_, rfl⟩
        rw [← hst2] at hst
        have hfa : fA rows id = (id, st) := by unfold fA stakeOf; rw [hp, hst2]; rfl
        have htk : ids.take (j + 1) = ids.take j ++ [id] := by rw [List.take_add_one, hide]; rfl
        have htk2 : P ++ (ids.take (j + 1)).map (fA rows) = (P ++ (ids.take j).map (fA rows)) ++ [(id, st)] := by rw [htk]; simp [hfa]
        have hpx : P ++ (ids.take (j + 1)).map (fA rows) <+: allOf rows := by
          refine List.IsPrefix.trans ?_ hpa
          exact (List.prefix_append_right_inj _).2 ((List.take_prefix _ _).map _)
        have hlt : (P ++ (ids.take j).map (fA rows)).length < (allOf rows).length := by
          have := hpx.length_le
          rw [htk2, List.length_append] at this
          simp only [List.length_singleton] at this
          omega
        obtain ⟨fn, tmps, assign, body, hy, hR⟩ := hY _ (id, st) Vx hAI.j hlt trivial
        dsimp only [encA] at hy
        have HF := Lib.hid (⟨hAI, hKp, htk2, hpx, hM, hn0, hs2⟩ : _ ∧ _ ∧ _ ∧ _ ∧ _ ∧ _ ∧ _)
        clear hj hAI hKp hA hoF hnbx hpa hex hfin hm hrl hJ hJx hY hM hn0 hs2 hy2 hcb2 hv2 hB2 hI0 hIo hkb hn hvo hcbk hcc hsV hcell hid hide hvx hidm hp hst2 hfa htk htk2 hpx hlt
        gi_wp2_with fail
        refine ⟨trivial, (fun h => by cases h), CallsIn.inRound _ ((callsIn_wide.2 hst).mono ?_)⟩
        rintro e w' ⟨rfl, hw'⟩
        obtain rfl : Vx = w' := hw'.symm
        clear hst r_s r_cb
        gi_wp2
        refine ⟨(fun h => by cases h), (roundIn_deep hR).mono ?_⟩
        rintro e V3 (⟨rfl, hJ3, hk3⟩ | ⟨rfl, hJx3, hkf⟩)
        · obtain ⟨hAI, hKp, htk2, hpx, hM, hn0, hs2⟩ := HF.out
          rw [← htk2] at hJ3
          have HLI := Lib.hid (show LI n₀ M B cb n0 col J rows W2 V P ids (j + 1) V3 from ⟨by omega, hAI.kp hJ3 hk3, hKp.trans hk3⟩)
          clear hy hR hAI hKp htk2 hpx hM hn0 hs2 hJ3 hk3 r_y
          gi_wp2
          refine ⟨⟨j + 1, _, _, _, _, _, _, _, _, _, _, _, _, _, _, _, _, _, _, _, _, _, by go_num, HLI⟩, ?_⟩
          simp [intOf]
          omega
        · obtain ⟨hAI, hKp, htk2, hpx, hM, hn0, hs2⟩ := HF.out
          rw [← htk2] at hJx3
          have hq : KeepsFrom W2.heap.size V V3 ∧ Code.ret = Code.ret ∧ ∃ p, p <+: allOf rows ∧ Jx p V3 := ⟨(hKp.from (by omega)).trans (KeepsFrom.le hkf (by omega)), rfl, _, hpx, hJx3⟩
          have HQ := Lib.hid hq
          clear hy hR hAI hKp htk2 hpx hM hn0 hs2 hJx3 hkf r_y hq
          gi_wp2
          exact ⟨HQ.out.1, rfl, HQ.out.2.2⟩
      · obtain ⟨hj, hAI, hKp⟩ := HI.out
        obtain ⟨hA, hoF, hnbx, hpa, hex, hfin, hm, hvv⟩ := HB.out
        obtain rfl : j = m := by omega
        have hpost : KeepsFrom W2.heap.size V Vx ∧ Kp n₀ (W2.heap.size + 2) B V Vx ∧ AI n₀ M B cb n0 col J W2 ((pre ++ [((k : Int), Value.slice A j c, ids)]).flatMap (fun x => x.2.2.map (fA rows))) Vx := by
          have hM := HH.out.2.2.2.2.1
          have hs := HH.out.2.2.2.2.2.2.1
          have h0 := HH.out.2.2.2.2.2.1
          refine ⟨hKp.from (by omega), hKp.mono (by omega), ?_⟩
          rw [hfin]
          rw [hm, List.take_length] at hAI
          exact hAI
        have HPO := Lib.hid hpost
        clear hj hAI hKp hA hoF hnbx hpa hex hfin hm hvv hpost
        gi_wp2
        exact HPO.out
  case done =>
    rintro D xs Vx hD hxs hA hKD
    obtain ⟨hrl, hJ, hJx, hY, hM, hn0, hs2, hy2, hcb2, hv2, hB2, hI0, hIo, hkb, hn⟩ := HH.out
    have hall : xs.flatMap (fun x => x.2.2.map (fA rows)) = allOf rows := by
      unfold allOf idsOf
      rw [← hxs, List.flatMap_map, List.map_flatMap]
      rfl
    have hj := hA.j
    rw [hall] at hj
    have HJ := Lib.hid (hJ.putObj (.deferred none) hj (by omega) hKD rfl)
    clear hrl hJ hJx hY hM hn0 hs2 hy2 hcb2 hv2 hB2 hI0 hIo hkb hn hj hxs hall hA hD
    gi_wp2
    refine ⟨by simp, .inl ⟨_, _, rfl, run_takeDeferred hKD, ?_⟩⟩
    exact ⟨_, results_none rfl _ _ _, ⟨_, rfl⟩, .inl ⟨_, rfl, HJ.out⟩⟩
  case stop =>
    rintro D c pre Vx hD hpre ⟨rfl, p, hp, hjx⟩ hKD
    obtain ⟨hrl, hJ, hJx, hY, hM, hn0, hs2, hy2, hcb2, hv2, hB2, hI0, hIo, hkb, hn⟩ := HH.out
    have HJ := Lib.hid (⟨hp, hJx.putObj (.deferred none) hjx (by omega) hKD rfl⟩ : _ ∧ _)
    clear hrl hJ hJx hY hM hn0 hs2 hy2 hcb2 hv2 hB2 hI0 hIo hkb hn hjx hpre hp hD
    gi_wp2
    refine ⟨by simp, .inl ⟨_, _, rfl, run_takeDeferred hKD, ?_⟩⟩
    exact ⟨_, results_none rfl _ _ _, ⟨_, rfl⟩, .inr ⟨_, HJ.out.1, HJ.out.2⟩⟩
end Go.Proofs.Ythoagpagnldmeaa.V
