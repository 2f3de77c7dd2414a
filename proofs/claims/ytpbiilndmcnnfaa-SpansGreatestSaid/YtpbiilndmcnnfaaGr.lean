/- Spans: the walk of the law SpansGreatest. -/
import Derived.Test.YtpbiilndmcnnfaaBs
set_option linter.unusedVariables false
set_option linter.unusedSimpArgs false
namespace Go.Proofs.Ytpbiilndmcnnfaa
open Go.RowKit Go.Ps

structure Gre (w0 w : World) (b : Nat) (v1 v2 : Value) (ends charges : List Int) (B1 : Nat) (p1 : List (Int × Value)) (B2 : Nat) (p2 : List (Int × Value)) : Prop where
  S : SRep w b v1 v2 ends charges
  M1 : IMap w B1 p1
  M2 : IMap w B2 p2
  ne : B1 ≠ B2
  f1 : ¬ Foot b v1 v2 B1
  f2 : ¬ Foot b v1 v2 B2
  L : ∀ k, (Foot b v1 v2 k ∨ k = B1 ∨ k = B2) → w0.heap.size ≤ k
  bel : Below w0.heap.size w0 w
section
variable {w0 w w' : World} {b : Nat} {v1 v2 : Value} {ends charges : List Int} {B1 : Nat} {p1 : List (Int × Value)} {B2 : Nat} {p2 : List (Int × Value)}
theorem Gre.keep (h : Gre w0 w b v1 v2 ends charges B1 p1 B2 p2) (hc : Chg (fun _ => False) w w') : Gre w0 w' b v1 v2 ends charges B1 p1 B2 p2 :=
  ⟨h.S.chg hc (fun _ _ => id), h.M1.chg hc id, h.M2.chg hc id, h.ne, h.f1, h.f2, h.L, chg_below h.bel hc (fun _ h => absurd h id) h.bel.size⟩
theorem Gre.stepS (h : Gre w0 w b v1 v2 ends charges B1 p1 B2 p2) {u1 u2 : Value} {ends2 charges2 : List Int} (hs : SRep w' b u1 u2 ends2 charges2) (hc : Chg (Foot b v1 v2) w w')
    (h1 : ∀ k, u1.ownBlock = some k → v1.ownBlock = some k ∨ w.heap.size ≤ k) (h2 : ∀ k, u2.ownBlock = some k → v2.ownBlock = some k ∨ w.heap.size ≤ k) : Gre w0 w' b u1 u2 ends2 charges2 B1 p1 B2 p2 := by
  have key : ∀ k, Foot b u1 u2 k → Foot b v1 v2 k ∨ w.heap.size ≤ k := fun k hk => by
    rcases hk with hk | hk | hk
    · exact Or.inl (Or.inl hk)
    · rcases h1 k hk with h | h
      · exact Or.inl (Or.inr (Or.inl h))
      · exact Or.inr h
    · rcases h2 k hk with h | h
      · exact Or.inl (Or.inr (Or.inr h))
      · exact Or.inr h
  refine ⟨hs, h.M1.chg hc h.f1, h.M2.chg hc h.f2, h.ne, fun hk => ?_, fun hk => ?_, fun k hk => ?_, chg_below h.bel hc (fun k hk => h.L k (Or.inl hk)) h.bel.size⟩
  · rcases key _ hk with h3 | h3
    · exact h.f1 h3
    · have := h.M1.lt; omega
  · rcases key _ hk with h3 | h3
    · exact h.f2 h3
    · have := h.M2.lt; omega
  · rcases hk with hk | hk
    · rcases key k hk with h3 | h3
      · exact h.L k (Or.inl h3)
      · have := h.bel.size; omega
    · exact h.L k (Or.inr hk)
theorem Gre.step1 (h : Gre w0 w b v1 v2 ends charges B1 p1 B2 p2) {q : List (Int × Value)} (hM : IMap w' B1 q) (hg : w.grownBy w' (some B1)) : Gre w0 w' b v1 v2 ends charges B1 q B2 p2 := by
  have hc : Chg (fun k => k = B1) w w' := (Chg.refl (fun k => k = B1) w).grown hg (fun k hk _ => by cases hk; rfl)
  exact ⟨h.S.chg hc (fun k hk e => h.f1 (e ▸ hk)), hM, h.M2.chg hc (fun e => h.ne e.symm), h.ne, h.f1, h.f2, h.L, chg_below h.bel hc (fun k hk => by rw [hk]; exact h.L _ (Or.inr (Or.inl rfl))) h.bel.size⟩
theorem Gre.step2 (h : Gre w0 w b v1 v2 ends charges B1 p1 B2 p2) {q : List (Int × Value)} (hM : IMap w' B2 q) (hg : w.grownBy w' (some B2)) : Gre w0 w' b v1 v2 ends charges B1 p1 B2 q := by
  have hc : Chg (fun k => k = B2) w w' := (Chg.refl (fun k => k = B2) w).grown hg (fun k hk _ => by cases hk; rfl)
  exact ⟨h.S.chg hc (fun k hk e => h.f2 (e ▸ hk)), h.M1.chg hc h.ne, hM, h.ne, h.f1, h.f2, h.L, chg_below h.bel hc (fun k hk => by rw [hk]; exact h.L _ (Or.inr (Or.inr rfl))) h.bel.size⟩
theorem look_f {B : Nat} {ps : List (Int × Value)} {f : Int → Int} (h : IMap w B ps) (hf : GetsF ps f) (k : Int) : (Instr.lookup 41 (.map (some B)) (.int .i64 k) false).run Try.prog w = .ok (.int .u64 (f k)) w := by
  have := h.look Try.underlying41 Try.underlying3 (zero32 w) k false
  rw [if_neg (by simp), hf k] at this
  exact this
end
/-- Both maps hold what was charged, in each span. -/
def GSim (charges : List Int) (p1 p2 : List (Int × Value)) : Prop := GetsF p1 (chargedOf charges) ∧ GetsF p2 (chargedOf charges) ∧ ∀ x ∈ charges, U64 x
theorem gsim_charge {ends charges : List Int} {p1 p2 : List (Int × Value)} (h : GSim charges p1 p2) (hl : charges.length ≤ ends.length + 1) {era amount : Int} (he : 0 ≤ era) (ha : U64 amount) {mx : Int} (hmx : mx = mxI (chargedOf charges (posOf ends era)) amount) :
    GSim (chargeAfter ends charges era amount) (IM.upd (posOf ends era) (.int .u64 mx) p1) (IM.upd (posOf ends era) (.int .u64 mx) p2) := by
  obtain ⟨h1, h2, h3⟩ := h
  refine ⟨fun k => ?_, fun k => ?_, charge_u h3 ha⟩
  · rw [IM.get_upd, charged_after _ _ _ _ hl]
    by_cases hk : k = posOf ends era
    · rw [if_pos hk, if_pos ⟨he, hk⟩, hk, hmx]
    · rw [if_neg hk, if_neg (by omega), h1 k]
  · rw [IM.get_upd, charged_after _ _ _ _ hl]
    by_cases hk : k = posOf ends era
    · rw [if_pos hk, if_pos ⟨he, hk⟩, hk, hmx]
    · rw [if_neg hk, if_neg (by omega), h2 k]
def GInv (w0 : World) (b B1 B2 : Nat) (k : Nat) (wr : World) : Prop := ∃ v1 v2 ends charges p1 p2, Gre w0 wr b v1 v2 ends charges B1 p1 B2 p2 ∧ GSim charges p1 p2 ∧ ends.length ≤ k

set_option maxHeartbeats 8000000 in
set_option maxRecDepth 20000 in
theorem spansGreatest_walk (A : Option Addr) (c : Nat) (l : List (Int × Int × Int)) (w : World) (hr : Reads3 w .i64 .i64 .u64 A l ∧ ∀ z ∈ l, (Lit.int .i64 z.1).wf = true ∧ (Lit.int .i64 z.2.1).wf = true ∧ (Lit.int .u64 z.2.2).wf = true) :
    Calls Try.prog 4 #[.slice A l.length c] w fun e w' => e = .returned (.bool true) ∧ Below w.heap.size w w' := by
  obtain ⟨hr, hw⟩ := hr
  by_cases hl : l.length ≤ 200
  · have hmm := @run_makeMap Try.prog
    go_enter Try.func4, Try.ntmps4
    go_wp2_with (first | (go_at_call 6; refine (awake_any w).mono ?_; rintro e w1 ⟨rfl, hb1⟩) | (go_at_call 7; refine (new_any w1).mono ?_; rintro e w2 ⟨b, rfl, hs0, hb0, hc2⟩))
    have hw1 := hb1.size
    have hw2 := hc2.size
    have hlt0 := heap_lt hs0.hb
    have st : ∀ W, W = (w2.alloc (.map #[] 0)).alloc (.map #[] 0) → GInv w b w2.heap.size (w2.heap.size + 1) 0 W := fun W hW => by
      have ha1 : Chg (fun _ => False) w2 (w2.alloc (.map #[] 0)) := (Chg.refl _ _).alloc _
      have ha2 : Chg (fun _ => False) (w2.alloc (.map #[] 0)) ((w2.alloc (.map #[] 0)).alloc (.map #[] 0)) := (Chg.refl _ _).alloc _
      have hM2 := IMap.made (w2.alloc (.map #[] 0))
      rw [World.size_alloc] at hM2
      have nf : ∀ j, w2.heap.size ≤ j → ¬ Foot b (.slice none 0 0) (.slice none 0 0) j := fun j hj hk => by
        rcases hk with hk | hk | hk
        · omega
        · simp [Value.ownBlock] at hk
        · simp [Value.ownBlock] at hk
      subst hW
      refine ⟨.slice none 0 0, .slice none 0 0, [], [], [], [], ⟨(hs0.chg ha1 (fun _ _ => id)).chg ha2 (fun _ _ => id), (IMap.made w2).chg ha2 id, hM2, by omega, nf _ (Nat.le_refl _), nf _ (by omega), fun k hk => ?_, ?_⟩, ⟨fun k => by rw [IM.get_nil]; simp [chargedOf], fun k => by rw [IM.get_nil]; simp [chargedOf], by simp⟩, Nat.le_refl _⟩
      · rcases hk with (hk | hk | hk) | hk | hk
        · omega
        · simp [Value.ownBlock] at hk
        · simp [Value.ownBlock] at hk
        · omega
        · omega
      · exact hb1.trans ((hc2.trans (ha1.trans ha2 (fun _ _ => id)) (fun _ _ => id)).below (fun k hk => ⟨by omega, id⟩))
    obtain ⟨B1, hB1⟩ : ∃ B, B = w2.heap.size := ⟨_, rfl⟩
    obtain ⟨B2, hB2⟩ : ∃ B, B = w2.heap.size + 1 := ⟨_, rfl⟩
    rw [← hB2, ← hB1] at st
    rw [← hB2, ← hB1]
    go_loopw [25] (fun i wr => ∃ k : Nat, k ≤ l.length ∧ i = .int .i64 k ∧ GInv w b B1 B2 k wr) (fun i _ => l.length - (intOf i).toNat)
    case atStart => exact ⟨0, Nat.zero_le _, rfl, st _ rfl⟩
    case round =>
      obtain ⟨k, hk, rfl, v1, v2, ends, charges, p1, p2, hG, hS, hel⟩ := hrel
      clear st hB1 hB2 hb1 hs0 hb0 hc2 hw1 hw2 hlt0
      by_cases hlt : k < l.length
      · obtain ⟨z, hz⟩ : ∃ z, z = l.getD k d3 := ⟨_, rfl⟩
        have hne : l ≠ [] := by rintro rfl; simp at hlt
        have hzm : z ∈ l := by rw [hz, List.getD_eq_getElem?_getD, List.getElem?_eq_getElem hlt]; exact List.getElem_mem _
        have hu : U64 z.2.2 := Go.bounds_u64 (hw z hzm).2.2
        obtain ⟨g, off, rfl, hgl, hcs⟩ := hr.below hG.bel hne
        obtain ⟨x0, x1, x2⟩ := hcs k hlt
        rw [← hz] at x0 x1 x2
        obtain ⟨z0, z1, z2⟩ := z
        replace hu : U64 z2 := hu
        clear hcs hgl hz hzm hw hr hne
        obtain ⟨W, hW⟩ : ∃ W, W = wr.alloc (.cells #[.int .i64 z0, .int .i64 z1, .int .u64 z2] 34) := ⟨_, rfl⟩
        obtain ⟨bx, hbx⟩ : ∃ b, b = wr.heap.size := ⟨_, rfl⟩
        have hGd : Gre w W b v1 v2 ends charges B1 p1 B2 p2 := by rw [hW]; exact hG.keep ((Chg.refl _ _).alloc _)
        have y1 : W.cell? ⟨bx, 1, none⟩ = some (.int .i64 z1) := by rw [hW, hbx]; exact cell_of (heap_alloc_at _ _) 1 rfl
        have y2 : W.cell? ⟨bx, 2, none⟩ = some (.int .u64 z2) := by rw [hW, hbx]; exact cell_of (heap_alloc_at _ _) 2 rfl
        have nf : ¬ Foot b v1 v2 bx := fun hk => by have := hG.S.lt hk; omega
        have nB1 : B1 ≠ bx := by have := hG.M1.lt; omega
        have nB2 : B2 ≠ bx := by have := hG.M2.lt; omega
        have hl5 : ends.length < 100000 := by omega
        have hcl := hG.S.l2
        clear hG
        by_cases hz0 : z0 = 2
        · subst hz0
          have hc11 := end_any z1 W b v1 v2 ends charges hGd.S (by omega)
          have fin : ∀ e w5, EndPost b v1 v2 ends charges z1 W e w5 → ∃ x, e = .returned (.bool x) ∧ GInv w b B1 B2 (k + 1) w5 := by
            rintro e w5 ⟨u1, he, hs, hc, ho⟩
            refine ⟨_, he, _, _, _, _, _, _, hGd.stepS hs hc ho (fun k hk => Or.inl hk), hS, ?_⟩
            split <;> (try simp only [List.length_append, List.length_singleton]) <;> omega
          clear hGd hS nf nB1 nB2 hl5 hcl hu y2
          subst hW hbx
          go_wp2_with (go_at_call 11; refine hc11.mono ?_; intro e w5 hp; obtain ⟨x, rfl, hI⟩ := fin e w5 hp; clear hp fin hc11)
          go_roundw
          case rel => exact ⟨k + 1, by omega, by go_num, hI⟩
          case measure => simp [intOf]; omega
        · have hz0b : (z0 == 2) = false := by simpa using hz0
          have hc9 := charge_any z1 z2 W b v1 v2 ends charges hGd.S (by omega) hS.2.2 hu
          by_cases h0 : z1 < 0
          · have fin : ∀ e w5, ChargePost b v1 v2 ends charges z1 z2 W e w5 → e = .returned (.tuple #[.int .u64 0, .int .i64 1]) ∧ GInv w b B1 B2 (k + 1) w5 := by
              rintro e w5 ⟨u2, he, hs, hc, ho⟩
              rw [chargeRose, if_pos h0, chargeCode, if_pos h0] at he
              rw [chargeAfter, if_pos h0] at hs
              exact ⟨he, _, _, _, _, _, _, hGd.stepS hs hc (fun k hk => Or.inl hk) ho, hS, by omega⟩
            clear hGd hS nf nB1 nB2 hl5 hcl hu hz0
            subst hW hbx
            go_wp2_with (go_at_call 9; refine hc9.mono ?_; intro e w5 hp; obtain ⟨rfl, hI⟩ := fin e w5 hp; clear hp fin hc9)
            go_roundw
            case rel => exact ⟨k + 1, by omega, by go_num, hI⟩
            case measure => simp [intOf]; omega
          · have hz10 : 0 ≤ z1 := by omega
            obtain ⟨n, hn⟩ : ∃ n, n = posOf ends z1 := ⟨_, rfl⟩
            obtain ⟨was, hwas⟩ : ∃ x, x = chargedOf charges n := ⟨_, rfl⟩
            obtain ⟨mx, hmx⟩ : ∃ m, m = mxI was z2 := ⟨_, rfl⟩
            obtain ⟨ro, hro⟩ : ∃ r, r = mx - was := ⟨_, rfl⟩
            have hwu : U64 was := by rw [hwas]; exact chargedOf_u hS.2.2 n
            have hmu : U64 mx := by rw [hmx]; exact mxI_u hwu hu
            have hS2 := gsim_charge hS hcl hz10 hu (mx := mx) (by rw [hmx, hwas, hn])
            rw [← hn] at hS2
            have fin : ∀ e w5, ChargePost b v1 v2 ends charges z1 z2 W e w5 → e = .returned (.tuple #[.int .u64 ro, .int .i64 0]) ∧ w5.cell? ⟨bx, 1, none⟩ = some (.int .i64 z1) ∧ w5.cell? ⟨bx, 2, none⟩ = some (.int .u64 z2) ∧
                Calls Try.prog 13 #[.pointer (some ⟨b, 0, none⟩), .int .i64 z1] w5 (fun e w' => e = .returned (.int .i64 n) ∧ w5 = w') ∧
                (Instr.lookup 41 (.map (some B1)) (.int .i64 n) false).run Try.prog w5 = .ok (.int .u64 was) w5 ∧
                ∃ w6, (Instr.mapUpdate 41 (.map (some B1)) (.int .i64 n) (.int .u64 mx)).run Try.prog w5 = .ok () w6 ∧ w6.cell? ⟨bx, 2, none⟩ = some (.int .u64 z2) ∧ (Instr.lookup 41 (.map (some B2)) (.int .i64 n) false).run Try.prog w6 = .ok (.int .u64 was) w6 ∧
                ∃ w7, (Instr.mapUpdate 41 (.map (some B2)) (.int .i64 n) (.int .u64 mx)).run Try.prog w6 = .ok () w7 ∧ GInv w b B1 B2 (k + 1) w7 := by
              rintro e w5 ⟨u2, he, hs, hc, ho⟩
              rw [charge_rose _ _ _ _ hcl, if_neg h0, ← hn, ← hwas, ← hmx, ← hro, chargeCode, if_neg h0] at he
              have hG5 := hGd.stepS hs hc (fun k hk => Or.inl hk) ho
              obtain ⟨w6, hst6, hM6, hg6⟩ := hG5.M1.store (P := Try.prog) Try.underlying41 Try.underlying3 n (.int .u64 mx)
              have hG6 := hG5.step1 hM6 hg6
              obtain ⟨w7, hst7, hM7, hg7⟩ := hG6.M2.store (P := Try.prog) Try.underlying41 Try.underlying3 n (.int .u64 mx)
              have hG7 := hG6.step2 hM7 hg7
              have c6 : Chg (fun k => k = B1) w5 w6 := (Chg.refl (fun k => k = B1) w5).grown hg6 (fun k hk _ => by cases hk; rfl)
              have z25 := chg_cell hc y2 nf
              refine ⟨he, chg_cell hc y1 nf, z25, ?_, by have := look_f hG5.M1 hS.1 n; rwa [← hwas] at this, w6, hst6, chg_cell c6 z25 (fun e => nB1 e.symm), by have := look_f hG6.M2 hS.2.1 n; rwa [← hwas] at this, w7, hst7, _, _, _, _, _, _, hG7, hS2, by omega⟩
              have := span_c z1 hG5.S
              rwa [← hn] at this
            have hsum : was + ro = mx := by omega
            have hmu1 := hmu.1
            have hmu2 := hmu.2
            clear hS2 hwas hn hGd hS nf nB1 nB2 hl5 hcl hz0 hro hmu
            subst hW hbx
            by_cases hm : was < z2
            · have hx : mx = z2 := by rw [hmx]; simp [mxI, hm]
              subst hx
              clear hmx hu
              go_wp2_with (first | (go_at_call 9; refine hc9.mono ?_; intro e w5 hp; obtain ⟨rfl, q1, q2, hsp, lk1, w6, st1, q3, lk2, w7, st2, hI⟩ := fin e w5 hp; clear hp fin hc9) | (go_at_call 13; refine hsp.mono ?_; rintro e w' ⟨rfl, rfl⟩))
              go_roundw
              case rel => exact ⟨k + 1, by omega, by go_num, hI⟩
              case measure => simp [intOf]; omega
            · have hx : mx = was := by rw [hmx]; simp [mxI, hm]
              subst hx
              clear hmx hu
              go_wp2_with (first | (go_at_call 9; refine hc9.mono ?_; intro e w5 hp; obtain ⟨rfl, q1, q2, hsp, lk1, w6, st1, q3, lk2, w7, st2, hI⟩ := fin e w5 hp; clear hp fin hc9) | (go_at_call 13; refine hsp.mono ?_; rintro e w' ⟨rfl, rfl⟩))
              go_roundw
              case rel => exact ⟨k + 1, by omega, by go_num, hI⟩
              case measure => simp [intOf]; omega
      · have hkn : k = l.length := by omega
        subst hkn
        clear hr hw
        have hln := len_any wr b v1 v2 ends charges hG.S
        have l1 := hG.S.l1
        go_wp2_with (go_at_call 15; refine hln.mono ?_; rintro e w5 ⟨rfl, rfl⟩)
        clear hln
        go_loopw [72] (fun i wr => ∃ k : Nat, k ≤ ends.length + 1 ∧ i = .int .i64 k ∧ Gre w wr b v1 v2 ends charges B1 p1 B2 p2) (fun i _ => ends.length + 1 - (intOf i).toNat)
        case atStart => exact ⟨0, Nat.zero_le _, rfl, hG⟩
        case round =>
          obtain ⟨k, hk, rfl, hG⟩ := hrel
          by_cases hlt : k < ends.length + 1
          · have kF := fun n => hG.keep ((Chg.refl (fun _ => False) _).drewN n)
            have lk1 := fun n => look_f (kF n).M1 hS.1 k
            have lk2 := fun n => look_f (kF n).M2 hS.2.1 k
            have hcd := fun n => charged_any k _ b _ _ _ _ (kF n).S
            have hlt' : (k : Int) < ends.length + 1 := by omega
            clear hG
            go_wp2
            go_quiet ((go_at_call 16; exact Calls.quiet_of_same ((hcd _).mono fun e w' h => ⟨h.1, h.2.symm⟩)))
            go_wp2
            go_roundw
            case rel => exact ⟨k + 1, by omega, by go_num, kF _⟩
            case measure => simp [intOf]; omega
          · have hlt' : ¬ (k : Int) < ends.length + 1 := by omega
            have bel := hG.bel
            clear hG hS
            go_wp2
            go_ret
            exact ⟨by simp, bel⟩
  · have hr2 := hl
    clear hr hw
    go_enter Try.func4, Try.ntmps4
    go_wp2_with (first | (go_at_call 6; refine (awake_any _).mono ?_; rintro e w1 ⟨rfl, hb1⟩))
    go_ret
    rename_i wq hq _
    exact ⟨by simp, hq.trans (hb1.mono hq.size)⟩
end Go.Proofs.Ytpbiilndmcnnfaa
