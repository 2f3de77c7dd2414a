/- Unbond. -/
import Derived.Test.YtpndkelbchjkiaaLv
import Derived.Test.YtpndkelbchjkiaaLw
import Derived.Test.YtpndkelbchjkiaaLx
set_option linter.unusedVariables false
set_option linter.unusedSimpArgs false
namespace Go.Proofs.Ytpndkelbchjkiaa
open Go.RowKit Go.Ps
theorem ownC_cells {tC : TypeId} {w : World} {v : Value} {l : List (Int × Int)} (h : OwnF w tC 2 fch v l) {k : Nat} (hk : k < l.length) : ∃ b c, v = .slice (some ⟨b, 0, none⟩) l.length c ∧ v.ownBlock = some b ∧ l.length ≤ c ∧ w.cell? ⟨b, k * 2, none⟩ = some (.int .u64 (l.getD k d0).1) ∧ w.cell? ⟨b, k * 2 + 1, none⟩ = some (.int .i64 (l.getD k d0).2) ∧ w.frozen? ⟨b, k * 2, none⟩ = false ∧ w.frozen? ⟨b, k * 2 + 1, none⟩ = false := by
  obtain ⟨b, c, cur, e1, e2, e3, e4, _, e6⟩ := h.at_ layC d0 (by omega)
  exact ⟨b, c, e1, e2, e4, cell_of e3 _ (e6 k 0 hk (by omega)), cell_of e3 _ (e6 k 1 hk (by omega)), frozen_of e3 _, frozen_of e3 _⟩
/-- Where an era stands, or would. -/
def pos (era : Int) : List (Int × Int) → Nat
  | [] => 0
  | x :: l => if x.2 < era then pos era l + 1 else 0
theorem Fnd.eq {era : Int} : ∀ {l : List (Int × Int)} {k : Nat}, Fnd l era k → k = pos era l
  | [], k, ⟨h, _⟩ => by simp at h; rw [h]; rfl
  | x :: l, 0, ⟨_, _, h⟩ => by
    have := h 0 (Nat.le_refl _) (by simp)
    rw [pos, if_neg (by simpa using this)]
  | x :: l, k + 1, ⟨h0, h1, h2⟩ => by
    have := h1 0 (by omega)
    rw [pos, if_pos (by simpa using this)]
    have ih := Fnd.eq (l := l) (k := k) ⟨by simpa using h0, fun t ht => by simpa using h1 (t + 1) (by omega), fun t ht hl => by simpa using h2 (t + 1) (by omega) (by simp; omega)⟩
    omega
abbrev thr (l : List (Int × Int)) (era : Int) : Prop := pos era l < l.length ∧ (l.getD (pos era l) d0).2 = era
def insC (l : List (Int × Int)) (era : Int) : List (Int × Int) := if thr l era then l else l.take (pos era l) ++ (0, era) :: l.drop (pos era l)
/-- An amount moved from what is bonded to a chunk. -/
def Ac.unb (a : Ac) (k : Nat) (n : Int) : Ac := { a with bonded := a.bonded - n, ch := a.ch.set k (((a.ch.getD k d0).1 + n) % 18446744073709551616, (a.ch.getD k d0).2) }
def S.unbond (s : S) (id n era : Int) : S × Int :=
  if s.bad id then (s, 5)
  else if n = 0 then (s, 1)
  else if (s.acc.getD id.toNat a0).bonded < n then (s, 8)
  else if ¬ thr (s.acc.getD id.toNat a0).ch era ∧ 8 ≤ (s.acc.getD id.toNat a0).ch.length then (s, 7)
  else ({ s with acc := s.acc.set id.toNat (Ac.unb { s.acc.getD id.toNat a0 with ch := insC (s.acc.getD id.toNat a0).ch era } (pos era (s.acc.getD id.toNat a0).ch) n) }, 0)
theorem pos_le (era : Int) : ∀ (l : List (Int × Int)), pos era l ≤ l.length
  | [] => Nat.le_refl _
  | x :: l => by
    unfold pos
    have := pos_le era l
    split <;> simp; omega
theorem pos_ins (l : List (Int × Int)) (era : Int) : pos era l < (insC l era).length := by
  unfold insC
  have := pos_le era l
  split
  · rename_i h; exact h.1
  · simp; omega
theorem unb_post {tG tA tC : TypeId} {hd : S → List Value} {W w' : World} {g b b2 m k : Nat} {V : Value} {L : List Row} {s : S} {n : Int} {e : Ending} (hh : Hds hd) (h : LS tG tA tC hd W g V L s) (hm : m < L.length) (hb : V.ownBlock = some b) (hv : (L.getD m r0).v.ownBlock = some b2) (hk : k < (s.acc.getD m a0).ch.length) (hn : n ≤ (s.acc.getD m a0).bonded)
    (hp : MovePost ⟨b, m * 4 + 1, none⟩ ⟨b2, k * 2, none⟩ (s.acc.getD m a0).bonded n W e w') :
    e = .returned (.int .i64 0) ∧ Stp tG tA tC hd W w' g V L { s with acc := s.acc.set m (Ac.unb (s.acc.getD m a0) k n) } ∧ w'.cell? ⟨b, m * 4 + 3, none⟩ = W.cell? ⟨b, m * 4 + 3, none⟩ := by
  unfold MovePost at hp
  rw [if_neg (by omega)] at hp
  obtain ⟨rfl, y, hy, rfl⟩ := hp
  have hms : m < s.acc.length := by rw [← h.len]; exact hm
  have hbb : b2 ≠ b := fun e => (h.at_.vs m b2 hm hv).2 (e ▸ hb)
  refine ⟨rfl, ?_, ?_⟩
  · obtain ⟨L', hL', hlen, hC, hM⟩ := Stp.put hh h (P := .acc m 1) ⟨hms, by omega⟩ (fun _ _ => hb) ((s.acc.getD m a0).bonded - n)
    simp only [adr] at hL' hC
    have hmL' : m < L'.length := by omega
    have hs1 : s.put ((s.acc.getD m a0).bonded - n) (.acc m 1) = { s with acc := s.acc.set m { s.acc.getD m a0 with bonded := (s.acc.getD m a0).bonded - n } } := rfl
    rw [hs1] at hL'
    obtain ⟨b3, c3, A3, cc3, r1, r2, r3, hc3⟩ := h.cells hm
    obtain ⟨b4, c4, A4, cc4, q1, q2, q3, hc4⟩ := hL'.cells hmL'
    obtain rfl : b = b3 := by have := hb.symm.trans r3; simpa using this
    obtain rfl : b = b4 := by have := hb.symm.trans q3; simpa using this
    obtain ⟨_, _, _, _, u3⟩ := hc3 W (Chg.refl _ _)
    obtain ⟨_, _, _, _, u4⟩ := hc4 _ (Chg.refl _ _)
    rw [World.cell?_setCell_other _ _ _ _ (fun e => by simp at e), u3] at u4
    have hvv : (L'.getD m r0).v = (L.getD m r0).v := by
      rw [q2, r2]
      simp only [Option.some.injEq] at u4
      exact u4.symm
    have hgd := getD_setA s.acc m { s.acc.getD m a0 with bonded := (s.acc.getD m a0).bonded - n } hms
    have hrow := hL'.at_.chs m hmL'
    have hxx : (L'.getD m r0).1 = { s.acc.getD m a0 with bonded := (s.acc.getD m a0).bonded - n } := by rw [← fst_getD, hL'.acc]; exact hgd
    rw [hxx] at hrow
    obtain ⟨b5, c5, p1, p2, _, p4, _⟩ := ownC_cells hrow (k := k) hk
    obtain rfl : b5 = b2 := by rw [hvv, hv] at p2; simpa using p2.symm
    rw [hy] at p4
    simp only [Option.some.injEq, Value.int.injEq, true_and] at p4
    subst p4
    have h2 := Stp.chunk hh hL' hmL' p2 (k := k) (by rw [hgd]; exact hk) (((((s.acc.getD m a0).ch.getD k d0).1 + n) % 18446744073709551616))
    refine Stp.glue hlen hC hM ?_
    simp only [hgd, List.set_set] at h2
    exact h2
  · rw [World.cell?_setCell_other _ _ _ _ (fun e => by simp at e), World.cell?_setCell_other _ _ _ _ (fun e => by simp at e)]
theorem unb_facts {w W : World} {g b m : Nat} {V : Value} {L : List Row} {s1 : S} {a1 : Ac} {k : Nat} {n : Int} (hS : Stp 64 34 38 S.hd w W g V L s1) (hm : m < L.length) (hms : m < s1.acc.length) (hb : V.ownBlock = some b) (ha : s1.acc.getD m a0 = a1) (hk : k < a1.ch.length) (hn : n ≤ a1.bonded) (hn64 : U64 n) (hB : U64 a1.bonded) :
    ∃ b2 cc2, W.drew.cell? ⟨b, m * 4 + 3, none⟩ = some (.slice (some ⟨b2, 0, none⟩) a1.ch.length cc2) ∧ Calls Try.prog 32 #[.pointer (some ⟨b, m * 4 + 1, none⟩), .pointer (some ⟨b2, k * 2, none⟩), .int .u64 n] W.drew fun e w' => e = .returned (.int .i64 0) ∧ Stp 64 34 38 S.hd w w' g V L { s1 with acc := s1.acc.set m (Ac.unb a1 k n) } ∧ w'.cell? ⟨b, m * 4 + 3, none⟩ = some (.slice (some ⟨b2, 0, none⟩) a1.ch.length cc2) := by
  obtain ⟨L1, hL0, hlen, hC, hM⟩ := hS
  have hL : LS 64 34 38 S.hd W.drew g V L1 s1 := hL0.keep (Chg.refl _ W).drew
  have hm1 : m < L1.length := by omega
  obtain ⟨b3, c3, A3, cc3, r1, r2, r3, hc3⟩ := hL.cells hm1
  obtain rfl : b = b3 := by have := hb.symm.trans r3; simpa using this
  obtain ⟨_, _, u1, _, u3⟩ := hc3 W.drew (Chg.refl _ _)
  have hrow := hL.at_.chs m hm1
  have hxx : (L1.getD m r0).1 = a1 := by rw [← fst_getD, hL.acc]; exact ha
  rw [hxx] at hrow
  rw [ha] at u1 u3 r2
  obtain ⟨b2, c5, p1, p2, _, p4, _, p6, _⟩ := ownC_cells hrow (k := k) hk
  rw [r2] at p1
  simp only [Value.slice.injEq, true_and] at p1
  obtain ⟨rfl, rfl⟩ := p1
  obtain ⟨_, f1⟩ := hL.get hds (P := .acc m 1) ⟨hms, by omega⟩ (fun _ _ => hb)
  simp only [adr] at f1
  refine ⟨b2, cc3, u3, ?_⟩
  refine (move_any ⟨b, m * 4 + 1, none⟩ ⟨b2, k * 2, none⟩ a1.bonded (a1.ch.getD k d0).1 n W.drew u1 p4 f1 p6 hB hn64).mono ?_
  intro e w' hp
  rw [← ha] at hp hk hn
  obtain ⟨k1, k2, k3⟩ := unb_post hds hL hm1 hb p2 hk hn hp
  rw [ha] at k2
  exact ⟨k1, Stp.glue hlen (hC.drew) hM k2, k3.trans u3⟩
set_option maxRecDepth 20000 in
set_option maxHeartbeats 4000000 in
theorem unbond_any {w : World} {g : Nat} {V : Value} {L : List Row} {s : S} (h : LS 64 34 38 S.hd w g V L s) (hU : s.U) (id n era : Int) (hn : U64 n) (hch : (s.acc.getD id.toNat a0).ch.length ≤ 900) (hsr : Srt (s.acc.getD id.toNat a0).ch) :
    Calls Try.prog 11 #[.pointer (some ⟨g, 0, none⟩), .int .i64 id, .int .u64 n, .int .i64 era] w fun e w' => e = .returned (.int .i64 (s.unbond id n era).2) ∧ Stp 64 34 38 S.hd w w' g V L (s.unbond id n era).1 := by
  have hf := find_one h id
  unfold S.unbond
  by_cases h0 : s.bad id
  · simp only [if_pos h0] at hf ⊢
    have HL := Lib.hid h
    clear h hch h0 hU hn hsr
    go_enter Try.func11, Try.ntmps11
    go_wp2_with fail
    refine hf.mono ?_
    rintro e w1 ⟨rfl, hC⟩
    have HC := Lib.hid hC
    clear hC hf
    go_wp2
    go_ret
    exact ⟨rfl, Stp.refl HL.out HC.out⟩
  · rw [if_neg h0] at hf ⊢
    obtain ⟨m, rfl⟩ : ∃ m : Nat, id = (m : Int) := ⟨id.toNat, by unfold S.bad at h0; omega⟩
    have hm : m < s.acc.length := by unfold S.bad at h0; omega
    simp only [Int.toNat_natCast] at hch hsr ⊢
    have hmL : m < L.length := by rw [h.len]; exact hm
    have hb1 : U64 (s.acc.getD m a0).bonded := hU (.acc m 1) ⟨hm, by omega⟩
    obtain ⟨b, c, A, cc, e1, e2, e3, hcells⟩ := h.cells hmL
    have hrow := h.at_.chs m hmL
    have hxx : (L.getD m r0).1 = s.acc.getD m a0 := by rw [← fst_getD, h.acc]
    rw [hxx] at hrow
    obtain ⟨a, ha⟩ : ∃ a, a = s.acc.getD m a0 := ⟨_, rfl⟩
    rw [← ha] at hch hb1 hcells e2 hsr hrow hxx ⊢
    obtain ⟨R, hR⟩ : ∃ R : S × Int, R = (if n = 0 then (s, 1) else if a.bonded < n then (s, 8) else if ¬ thr a.ch era ∧ 8 ≤ a.ch.length then (s, 7) else ({ s with acc := s.acc.set m (Ac.unb { a with ch := insC a.ch era } (pos era a.ch) n) }, 0)) := ⟨_, rfl⟩
    rw [← hR]
    rw [e2] at hrow
    obtain ⟨ln, hln⟩ : ∃ n, n = L.length := ⟨_, rfl⟩
    obtain ⟨B0, hB0⟩ : ∃ B, B = a.bonded := ⟨_, rfl⟩
    rw [← hB0] at hcells hb1
    obtain ⟨cn, hcn⟩ : ∃ n, n = a.ch.length := ⟨_, rfl⟩
    rw [← hcn] at hcells hch
    rw [← hln] at hcells hmL
    have HROW := Lib.hid (⟨hrow, hsr⟩ : _ ∧ _)
    rw [← hcn] at HROW
    have HS := Lib.hid (⟨h, hm, e2, e3, ha, hln, hb1, hn, hB0⟩ : _ ∧ _ ∧ _ ∧ _ ∧ _ ∧ _ ∧ _ ∧ _ ∧ _)
    have HN := Lib.hid (⟨hcn, hch⟩ : _ ∧ _)
    have HR := Lib.hid hR
    clear h h0 hm ha hln hU hn e1 e2 e3 hch hcn hrow hsr hxx hR hB0 hb1
    go_enter Try.func11, Try.ntmps11
    go_wp2_with fail
    refine hf.mono ?_
    rintro e w1 ⟨rfl, hC⟩
    obtain ⟨k1, c0, c1, c2, c3⟩ := hcells w1 hC
    have HC := Lib.hid hC
    clear hC hf c0 c1 c2
    go_wp2_with fail
    have hse := search_any (HROW.out.1.chg HC.out (fun _ _ => id)) (by rw [← HN.out.1]; have := HN.out.2; omega) HROW.out.2 era
    refine hse.mono ?_
    rintro e w2 ⟨k, hF, rfl, hC2⟩
    have hkp := hF.eq
    have hkle := hF.1
    have hC02 := HC.out.trans hC2 (fun _ _ h => h)
    obtain ⟨_, _, d1, _, d3⟩ := hcells w2 hC02
    have HC2 := Lib.hid (⟨hC02, hkp⟩ : _ ∧ _)
    rw [← HN.out.1] at hkle
    clear hse hF hC2 hkp hC02 c3 k1
    obtain ⟨th, hth⟩ : ∃ th, th = decide (k < a.ch.length ∧ (a.ch.getD k d0).2 = era) := ⟨_, rfl⟩
    rw [← hth]
    have HTH : Hid (th = decide (thr a.ch era)) := Lib.hid (by rw [hth, HC2.out.2])
    clear hth
    by_cases n0 : n = 0
    · have hR1 : Hid (R = (s, 1)) := Lib.hid (by rw [HR.out, if_pos n0])
      clear HR
      subst n0
      go_wp2
      go_ret
      rw [hR1.out]
      exact ⟨rfl, Stp.refl HS.out.1 HC2.out.1⟩
    by_cases n1 : B0 < n
    · go_wp2
      go_ret
      rw [HR.out, if_neg n0, ← HS.out.2.2.2.2.2.2.2.2, if_pos n1]
      exact ⟨rfl, Stp.refl HS.out.1 HC2.out.1⟩
    have HR2 : Hid (R = if ¬ thr a.ch era ∧ 8 ≤ a.ch.length then (s, 7) else ({ s with acc := s.acc.set m (Ac.unb { a with ch := insC a.ch era } (pos era a.ch) n) }, 0)) := Lib.hid (by rw [HR.out, if_neg n0, ← HS.out.2.2.2.2.2.2.2.2, if_neg n1])
    clear HR
    cases th with
    | true =>
      have hthr : thr a.ch era := of_decide_eq_true HTH.out.symm
      have HR3 : Hid (R = ({ s with acc := s.acc.set m (Ac.unb a k n) }, 0)) := Lib.hid (by
        rw [HR2.out, if_neg (fun h => h.1 hthr), HC2.out.2, show insC a.ch era = a.ch from if_pos hthr])
      have hkl : k < a.ch.length := by rw [HC2.out.2]; exact hthr.1
      obtain ⟨h, hm, e2, e3, ha, hln, hb1, hn, hB0⟩ := HS.out
      obtain ⟨b2, cc2, hW⟩ := unb_facts (Stp.refl h HC2.out.1) (by omega) hm e3 ha.symm hkl (by omega) hn (by rw [← hB0]; exact hb1)
      clear h hm e2 e3 ha hln hb1 hn hB0
      obtain ⟨TS, hTS⟩ : ∃ TS, TS = { s with acc := s.acc.set m (Ac.unb a k n) } := ⟨_, rfl⟩
      rw [← hTS] at hW HR3
      rw [← HN.out.1] at hW
      have hkc : k < cn := by rw [HN.out.1]; exact hkl
      obtain ⟨ln2, hln2⟩ : ∃ l, l = cn := ⟨_, rfl⟩
      have HW := Lib.hid hW
      clear hthr hkl hW hTS HR2
      rw [← hln2] at HW
      rw [← hln2] at d3 hkc
      have HLN2 := Lib.hid hln2
      clear hln2
      go_wp2_with fail
      refine J.wp_region_seq (fun W => W.cell? ⟨b, m * 4 + 3, none⟩ = some (.slice (some ⟨b2, 0, none⟩) ln2 cc2)) [(0, 0), (1, 0), (2, 0), (3, 0), (4, 0), (5, 0), (6, 0), (7, 0), (8, 0), (9, 0), (10, 0), (11, 1), (12, 0)] (by kernel_rfl) (by kernel_rfl) (by kernel_rfl) HW.out.1 ?_
      iterate 11 (apply J.look (by rfl) (by rfl); (focus (intro W hW; go_simp; exact HasV.val rfl)); simp only [Act.put, List.setIfInBounds_toArray, List.set_cons_zero, List.set_cons_succ])
      refine J.link (fun v W => v = .int .i64 0 ∧ Stp 64 34 38 S.hd w W g V L TS ∧ W.cell? ⟨b, m * 4 + 3, none⟩ = some (.slice (some ⟨b2, 0, none⟩) ln2 cc2)) (by rfl) (by rfl) ?_ (fun v W hR => hR.2.2) ?_
      · go_simp
        refine J.HasR.call (HW.out.2.mono ?_)
        rintro e W ⟨rfl, hS, hc⟩
        exact ⟨_, rfl, rfl, hS, hc⟩
      rintro v W ⟨rfl, hS, hc⟩
      have HS := Lib.hid hS
      clear hS hc
      simp only [Act.put, List.setIfInBounds_toArray, List.set_cons_zero, List.set_cons_succ]
      apply J.look (by rfl) (by rfl); (focus (intro W hW; go_simp; exact HasV.val rfl)); simp only [Act.put, List.setIfInBounds_toArray, List.set_cons_zero, List.set_cons_succ]
      refine J.fin ?_
      go_wp2
      go_ret
      rw [HR3.out]
      exact ⟨rfl, HS.out⟩
    | false =>
      have hthr : ¬ thr a.ch era := of_decide_eq_false HTH.out.symm
      by_cases h8 : 8 ≤ cn
      · have hR3 : Hid (R = (s, 7)) := Lib.hid (by rw [HR2.out, if_pos ⟨hthr, by rw [← HN.out.1]; exact h8⟩])
        clear hthr HR2
        go_wp2
        go_ret
        rw [hR3.out]
        exact ⟨rfl, Stp.refl HS.out.1 HC2.out.1⟩
      · have hins : insC a.ch era = a.ch.take k ++ (0, era) :: a.ch.drop k := by rw [HC2.out.2]; exact if_neg hthr
        have HR3 : Hid (R = ({ s with acc := s.acc.set m (Ac.unb { a with ch := insC a.ch era } k n) }, 0)) := Lib.hid (by
          rw [HR2.out, if_neg (fun h => h8 (by rw [HN.out.1]; exact h.2)), HC2.out.2])
        have HINS := Lib.hid hins
        have hC3 : Chg (fun _ => False) w (w2.alloc (.cells #[.int .u64 0, .int .i64 era] 38)) := HC2.out.1.alloc _
        have hkq : (w2.alloc (.cells #[.int .u64 0, .int .i64 era] 38)).heap[w2.heap.size]? = some (.cells #[.int .u64 0, .int .i64 era] 38 (0, 0)) := heap_alloc_at _ _
        have hi := insert_any (i := k) (HROW.out.1.chg hC3 (fun _ _ => id)) (0, era) hkq (fun e => by have := HROW.out.1.lt e; have := HC2.out.1.size; omega) (by rw [← HN.out.1]; exact hkle) (by rw [← HN.out.1]; have := HN.out.2; omega)
        clear hthr HR2 hC3 hkq hins
        go_wp2_with fail
        refine hi.mono ?_
        rintro e w4 ⟨A4, c4, rfl, hO4, hC4, hk4⟩
        obtain ⟨h, hm, e2, e3, ha, hln, hb1, hn, hB0⟩ := HS.out
        have hmLL : m < L.length := by omega
        have hC3 : Chg (fun _ => False) w (w2.alloc (.cells #[.int .u64 0, .int .i64 era] 38)) := HC2.out.1.alloc _
        have hC4' : Chg (fun k => (L.getD m r0).v.ownBlock = some k) w w4 := (hC3.mono (fun _ _ h => h.elim)).trans hC4 (fun k hk e => by rw [e2, ← HN.out.1]; exact e)
        have hx3 := h.at_.rows.chg hC4' (fun k hk e => (h.at_.vs m k hmLL e).2 hk)
        obtain ⟨b', _, cur3, r1, r2, r3, _, _, r6⟩ := hx3.at_ layA r0 (by omega)
        obtain rfl : b = b' := by have := e3.symm.trans r2; simpa using this
        obtain ⟨uu, huu⟩ : ∃ u, u = (L.getD m r0).v := ⟨_, rfl⟩
        have u3 : w4.cell? ⟨b, m * 4 + 3, none⟩ = some uu := cell_of r3 _ ((r6 m 3 hmLL (by omega)).trans (by rw [huu]; rfl))
        have y3 := frozen_of r3 (m * 4 + 3)
        have hS4 := Stp.setCh hds h hmLL e3 hC4' hO4 (fun k hk => by
          rcases hk4 k hk with e | e
          · left; rw [e2, ← HN.out.1]; exact e
          · right; have := hC3.size; omega)
        rw [← ha, ← HINS.out] at hS4
        have hgd := getD_setA s.acc m { a with ch := insC a.ch era } hm
        have hkl : k < (insC a.ch era).length := by rw [HC2.out.2]; exact pos_ins _ _
        obtain ⟨b2, cc2, hW⟩ := unb_facts hS4 hmLL (by simpa using hm) e3 hgd hkl (by show n ≤ a.bonded; omega) hn (by show U64 a.bonded; rw [← hB0]; exact hb1)
        simp only [List.set_set] at hW
        obtain ⟨TS, hTS⟩ : ∃ TS, TS = { s with acc := s.acc.set m (Ac.unb { a with ch := insC a.ch era } k n) } := ⟨_, rfl⟩
        rw [← hTS] at hW HR3
        obtain ⟨ln2, hln2⟩ : ∃ l, l = (insC a.ch era).length := ⟨_, rfl⟩
        rw [← hln2] at hW hkl
        obtain ⟨W4, hW4⟩ : ∃ W4, W4 = w4.setCell ⟨b, m * 4 + 3, none⟩ (.slice A4 (a.ch.length + 1) c4) := ⟨_, rfl⟩
        rw [← hW4] at hW
        obtain ⟨n4, hn4⟩ : ∃ n4, n4 = a.ch.length + 1 := ⟨_, rfl⟩
        rw [← hn4] at hW4 ⊢
        have HW := Lib.hid hW
        have HW4 := Lib.hid hW4
        clear h hm e2 e3 ha hln hb1 hn hB0 hmLL hC3 hC4' hx3 r1 r2 r3 r6 huu hS4 hgd hW hTS hln2 hW4 hO4 hC4 hk4 hn4 hi d1 d3
        go_wp2_with fail
        rw [← HW4.out]
        refine J.wp_region_seq (fun W => W.cell? ⟨b, m * 4 + 3, none⟩ = some (.slice (some ⟨b2, 0, none⟩) ln2 cc2)) [(0, 0), (1, 0), (2, 0), (3, 0), (4, 0), (5, 0), (6, 0), (7, 0), (8, 0), (9, 0), (10, 0), (11, 1), (12, 0)] (by kernel_rfl) (by kernel_rfl) (by kernel_rfl) HW.out.1 ?_
        iterate 11 (apply J.look (by rfl) (by rfl); (focus (intro W hW; go_simp; exact HasV.val rfl)); simp only [Act.put, List.setIfInBounds_toArray, List.set_cons_zero, List.set_cons_succ])
        refine J.link (fun v W => v = .int .i64 0 ∧ Stp 64 34 38 S.hd w W g V L TS ∧ W.cell? ⟨b, m * 4 + 3, none⟩ = some (.slice (some ⟨b2, 0, none⟩) ln2 cc2)) (by rfl) (by rfl) ?_ (fun v W hR => hR.2.2) ?_
        · go_simp
          refine J.HasR.call (HW.out.2.mono ?_)
          rintro e W ⟨rfl, hS, hc⟩
          exact ⟨_, rfl, rfl, hS, hc⟩
        rintro v W ⟨rfl, hS, hc⟩
        have HS := Lib.hid hS
        clear hS hc
        simp only [Act.put, List.setIfInBounds_toArray, List.set_cons_zero, List.set_cons_succ]
        apply J.look (by rfl) (by rfl); (focus (intro W hW; go_simp; exact HasV.val rfl)); simp only [Act.put, List.setIfInBounds_toArray, List.set_cons_zero, List.set_cons_succ]
        refine J.fin ?_
        go_wp2
        go_ret
        rw [HR3.out]
        exact ⟨rfl, HS.out⟩
end Go.Proofs.Ytpndkelbchjkiaa
