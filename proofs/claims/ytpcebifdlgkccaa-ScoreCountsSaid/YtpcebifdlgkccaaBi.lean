/- Scores: the reference's naturals, multiplied; Add and Mul. -/
import Derived.Test.YtpcebifdlgkccaaBh
set_option linter.unusedVariables false
set_option linter.unusedSimpArgs false
namespace Go.Proofs.Ytpcebifdlgkccaa
open Go.RowKit Go.Ps

/-- The row that is written: block g. -/
structure Mw (w : World) (g n : Nat) (out : List Int) (W : World) : Prop where
  blk : W.heap[g]? = some (.cells (out.map (Value.int .u32)).toArray 52 (0, 0))
  len : out.length = n
  dig : Dig out
  chg : Chg (fun _ => False) w W
  ge : w.heap.size ≤ g
theorem Mw.cell {w W : World} {g n : Nat} {out : List Int} (h : Mw w g n out W) {j : Nat} (hj : j < n) : W.cell? ⟨g, j, none⟩ = some (.int .u32 (out.getD j 0)) := by
  refine cell_of h.blk j ?_
  have : j < out.length := by rw [h.len]; exact hj
  simp [List.getD_eq_getElem?_getD, this]
theorem Mw.set {w W : World} {g n : Nat} {out : List Int} (h : Mw w g n out W) (j : Nat) {y : Int} (hy : 0 ≤ y ∧ y < 4294967296) : Mw w g n (out.set j y) (W.setCell ⟨g, j, none⟩ (.int .u32 y)) := by
  refine ⟨?_, by rw [List.length_set]; exact h.len, h.dig.set j hy, ?_, h.ge⟩
  · rw [heap_setCell h.blk]
    congr 2
    rw [List.setIfInBounds_toArray, List.map_set]
  · have hc : Chg (fun k => k = g) W (W.setCell ⟨g, j, none⟩ (.int .u32 y)) := (Chg.refl (fun k => k = g) W).setCell (p := ⟨g, j, none⟩) (fun _ => rfl) _
    exact h.chg.trans hc (fun k hk e => by have := h.ge; omega)
theorem Mw.grow {w W W' : World} {g n : Nat} {out : List Int} (h : Mw w g n out W) (hc : Chg (fun _ => False) W W') : Mw w g n out W' :=
  ⟨(hc.block g (heap_lt h.blk) id).trans h.blk, h.len, h.dig, chg_trans h.chg hc, h.ge⟩
theorem getD_set_eq {l : List Int} {i : Nat} {y : Int} (h : i < l.length) : (l.set i y).getD i 0 = y := by simp [List.getD_eq_getElem?_getD, h]
theorem getD_set_far {l : List Int} {i j : Nat} {y : Int} (h : i ≠ j) : (l.set i y).getD j 0 = l.getD j 0 := by simp [List.getD_eq_getElem?_getD, h]
theorem mul_step {A B out : List Int} {i k : Nat} {C o dg C' xi bk : Int} (hv : valN out + 4294967296 ^ (i + k) * C = valN (A.take i) * valN B + 4294967296 ^ i * (xi * valN (B.take k))) (hl : i + k < out.length) (ho : o = out.getD (i + k) 0)
    (hs : C + o + xi * bk = dg + 4294967296 * C') (hb : valN (B.take (k + 1)) = valN (B.take k) + 4294967296 ^ k * bk) :
    valN (out.set (i + k) dg) + 4294967296 ^ (i + (k + 1)) * C' = valN (A.take i) * valN B + 4294967296 ^ i * (xi * valN (B.take (k + 1))) := by
  rw [valN_set _ _ _ hl, ← ho, hb, show i + (k + 1) = (i + k) + 1 by omega, Int.pow_succ]
  have hp : (4294967296 : Int) ^ (i + k) = 4294967296 ^ i * 4294967296 ^ k := Int.pow_add _ _ _
  have h2 : 4294967296 ^ (i + k) * (C + o + xi * bk) = 4294967296 ^ (i + k) * (dg + 4294967296 * C') := by rw [hs]
  rw [hp] at *
  grind
theorem mul_end {A B out : List Int} {i : Nat} {C xi : Int} (hv : valN out + 4294967296 ^ (i + B.length) * C = valN (A.take i) * valN B + 4294967296 ^ i * (xi * valN (B.take B.length))) (hl : i + B.length < out.length) (ho : out.getD (i + B.length) 0 = 0)
    (ha : valN (A.take (i + 1)) = valN (A.take i) + 4294967296 ^ i * xi) : valN (out.set (i + B.length) C) = valN (A.take (i + 1)) * valN B := by
  rw [valN_set _ _ _ hl, ho, ha]
  rw [List.take_length] at hv
  grind
theorem prod_bound {a b : Int} (ha : 0 ≤ a ∧ a < 4294967296) (hb : 0 ≤ b ∧ b < 4294967296) : 0 ≤ a * b ∧ a * b ≤ 18446744065119617025 := mul_bound ha hb
theorem map_rep (n : Nat) : (List.replicate n (Value.int .u32 0)) = (List.replicate n (0 : Int)).map (Value.int .u32) := by rw [List.map_replicate]
set_option maxRecDepth 100000 in
set_option maxHeartbeats 4000000 in
theorem mul26_any (w : World) (A B : Option Addr) (c d : Nat) (a b : List Int) (hra : ReadsI w .u32 A a) (hrb : ReadsI w .u32 B b) (hda : Dig a) (hdb : Dig b) (hla : a.length ≤ 100) (hlb : b.length ≤ 100) : Calls Try.prog 26 #[.slice A a.length c, .slice B b.length d] w (LP (valN a * valN b) w) := by
  have HRA := Lib.hid hra
  have HRB := Lib.hid hrb
  have HDA := Lib.hid hda
  have HDB := Lib.hid hdb
  obtain ⟨na, hna⟩ : ∃ n, n = a.length := ⟨_, rfl⟩
  obtain ⟨nb, hnb⟩ : ∃ n, n = b.length := ⟨_, rfl⟩
  rw [← hna] at hla ⊢
  rw [← hnb] at hlb ⊢
  have HNA := Lib.hid hna
  have HNB := Lib.hid hnb
  have hmk := fun W => run_make_rep (P := Try.prog) 47 52 (.int .u32 0) 4 Try.underlying47 info52 rfl .i64 .i64 ((na : Int) + (nb : Int) + 1) (by omega) (by omega) (by omega) W
  obtain ⟨w1, hw1⟩ : ∃ w1, w1 = w.alloc (.cells (Array.replicate (na + nb + 1) (.int .u32 0)) 52) := ⟨_, rfl⟩
  obtain ⟨g, hg⟩ : ∃ g, g = w.heap.size := ⟨_, rfl⟩
  have htn : ((na : Int) + (nb : Int) + 1).toNat = na + nb + 1 := by omega
  have hM1 : Mw w g (na + nb + 1) (List.replicate (na + nb + 1) 0) w1 := by
    refine ⟨?_, by simp, Dig.rep _, ?_, by omega⟩
    · rw [hw1, hg, ← map_rep, List.toArray_replicate]; exact heap_alloc_at _ _
    · rw [hw1]; exact (Chg.refl _ _).alloc _
  have HM1 := Lib.hid hM1
  have HW1 := Lib.hid hw1
  have HG := Lib.hid hg
  clear hra hrb hda hdb hna hnb hw1 hg hM1 htn
  go_enter Try.func26, Try.ntmps26
  go_wp2_with fail
  rw [← HW1.out, ← HG.out]
  clear HW1 HG hmk
  go_loopw [18] (fun i wr => ∃ (k : Nat) (out : List Int), k ≤ na ∧ i = .int .i64 k ∧ Hid (Mw w g (na + nb + 1) out wr) ∧ Hid (valN out = valN (a.take k) * valN b) ∧ Hid (∀ j, k + nb ≤ j → out.getD j 0 = 0)) (fun i _ => na - (intOf i).toNat)
  case atStart => exact ⟨0, _, by omega, rfl, HM1, Lib.hid (by rw [valN_rep]; simp [valN]), Lib.hid (fun j _ => by simp only [List.getD_eq_getElem?_getD, List.getElem?_replicate]; split <;> rfl)⟩
  case round =>
    obtain ⟨i, out, hi, rfl, hM, hv, hz⟩ := hrel
    obtain ⟨wo, rfl⟩ : ∃ wo : World, wo = wr := ⟨_, rfl⟩
    by_cases hi2 : i < na
    · obtain ⟨ga, oa, rfl, hxa⟩ := HRA.out.plain (by rintro rfl; have := HNA.out; simp at this; omega)
      obtain ⟨xi, hxi⟩ : ∃ x, x = a.getD i 0 := ⟨_, rfl⟩
      have hbi := HDA.out.getD i
      have pa := hxa i (by rw [← HNA.out]; exact hi2)
      rw [← hxi] at hbi pa
      obtain ⟨hbi0, hbi1⟩ := hbi
      have HPA := Lib.hid pa
      have HXI := Lib.hid hxi
      have HV0 := Lib.hid (show valN out + 4294967296 ^ (i + 0) * 0 = valN (a.take i) * valN b + 4294967296 ^ i * (xi * valN (b.take 0)) by rw [hv.out]; simp [valN])
      clear pa hxa hxi hv
      go_wp2_with fail
      go_loopw [7, 23] (fun cr kk wr => ∃ (k : Nat) (out : List Int) (C : Int), k ≤ nb ∧ kk = .int .i64 k ∧ cr = .int .u64 C ∧ 0 ≤ C ∧ C < 4294967296 ∧ Hid (Mw w g (na + nb + 1) out wr) ∧ Hid (valN out + 4294967296 ^ (i + k) * C = valN (a.take i) * valN b + 4294967296 ^ i * (xi * valN (b.take k))) ∧ Hid (∀ j, i + nb ≤ j → out.getD j 0 = 0)) (fun _ kk _ => nb - (intOf kk).toNat)
      case atStart => exact ⟨0, out, 0, by omega, rfl, rfl, by omega, by omega, hM, HV0, hz⟩
      case round =>
        obtain ⟨k, out, C, hk, rfl, rfl, hC0, hC1, hM, hv, hz⟩ := hrel
        by_cases hk2 : k < nb
        · obtain ⟨gb, ob, rfl, hxb⟩ := HRB.out.plain (by rintro rfl; have := HNB.out; simp at this; omega)
          obtain ⟨bk, hbk⟩ : ∃ x, x = b.getD k 0 := ⟨_, rfl⟩
          have hbb := HDB.out.getD k
          have pb := hxb k (by rw [← HNB.out]; exact hk2)
          rw [← hbk] at hbb pb
          obtain ⟨hbb0, hbb1⟩ := hbb
          obtain ⟨o, ho⟩ : ∃ x, x = out.getD (i + k) 0 := ⟨_, rfl⟩
          have hbo := hM.out.dig.getD (i + k)
          have po := hM.out.cell (j := i + k) (by omega)
          have fo := frozen_of hM.out.blk (i + k)
          rw [← ho] at hbo po
          obtain ⟨hbo0, hbo1⟩ := hbo
          obtain ⟨p, hp⟩ : ∃ p, xi * bk = p := ⟨_, rfl⟩
          have hpb := prod_bound ⟨hbi0, hbi1⟩ ⟨hbb0, hbb1⟩
          rw [hp] at hpb
          obtain ⟨hpb0, hpb1⟩ := hpb
          obtain ⟨s, hs⟩ : ∃ s, C + o + p = s := ⟨_, rfl⟩
          obtain ⟨dg, hdg⟩ : ∃ x, s % 4294967296 = x := ⟨_, rfl⟩
          obtain ⟨C', hC'⟩ : ∃ x, s / 4294967296 = x := ⟨_, rfl⟩
          have hdg0 : 0 ≤ dg ∧ dg < 4294967296 := by omega
          have hC0' : 0 ≤ C' := by omega
          have hC1' : C' < 4294967296 := by omega
          have hs0 : 0 ≤ s := by omega
          have hvn := mul_step (B := b) (xi := xi) (bk := bk) (dg := dg) (C' := C') hv.out (by rw [hM.out.len]; omega) ho (by rw [hp]; omega) (by rw [hbk]; exact take_val b k)
          have hMn := hM.out.grow (Chg.refl _ wr).drew
          have hMs := hMn.set (i + k) hdg0
          have HREL := Lib.hid (show Hid (Mw w g (na + nb + 1) (out.set (i + k) dg) (wr.setCell ⟨g, i + k, none⟩ (.int .u32 dg)).drew) ∧ Hid (valN (out.set (i + k) dg) + 4294967296 ^ (i + (k + 1)) * C' = valN (a.take i) * valN b + 4294967296 ^ i * (xi * valN (b.take (k + 1)))) ∧ Hid (∀ j, i + nb ≤ j → (out.set (i + k) dg).getD j 0 = 0) from
            ⟨Lib.hid hMs, Lib.hid hvn, Lib.hid (fun j hj => by rw [getD_set_far (by omega)]; exact hz.out j hj)⟩)
          have hpa := chg_cell hM.out.chg HPA.out id
          have hpb := chg_cell hM.out.chg pb id
          have hwd : IntKind.u32.wrap s = dg := by rw [wrap32u, hdg]
          have hwik : IntKind.i64.wrap ((i : Int) + (k : Int)) = (i : Int) + (k : Int) := i64w (by omega)
          have HPO := Lib.hid (And.intro po fo)
          have HPAB := Lib.hid (And.intro hpa hpb)
          have HW := Lib.hid (And.intro hwd (And.intro hs hC'))
          have HP := Lib.hid hp
          have hik0 : (0 : Int) ≤ (i : Int) + (k : Int) := by omega
          have hik1 : (i : Int) + (k : Int) < (na : Int) + (nb : Int) + 1 := by omega
          have hik2 : ((i : Int) + (k : Int)).toNat = i + k := by omega
          have hs1 : s < 18446744073709551616 := by omega
          have HS1 : s ≤ 18446744073709551615 := by omega
          have hi2I : (i : Int) < (na : Int) := by omega
          have hk2I : (k : Int) < (nb : Int) := by omega
          clear hM hv hz hvn hMn hMs hxb pb hbk ho po fo hp hs hdg hC' hpa hpb hwd hdg0 hs1
          go_wp2_with fail
          have hp := HP.out
          have hws1 : IntKind.u64.wrap (C + o) = C + o := by rw [wrap64u]; omega
          have hwp : IntKind.u64.wrap p = p := by rw [wrap64u]; omega
          have hws2 : IntKind.u64.wrap (C + o + p) = s := by have := HW.out.2.1; rw [wrap64u]; omega
          refine wp_region_same (fun W => W = wr.drew) (by kernel_rfl) (by kernel_rfl) rfl ?_
          iterate 22 (apply wpDet_step (by rfl); (focus (intro W hW; subst hW; obtain ⟨q0, q1⟩ := HPO.out; obtain ⟨q2, q3⟩ := HPAB.out; go_simp; (with_reducible exact HasV.val rfl))); simp only [Act.put, List.setIfInBounds_toArray, List.set_cons_zero, List.set_cons_succ])
          refine wpDet_nil ?_
          intro W hW
          subst hW
          simp only [show IntKind.u64.wrap o = o from by rw [wrap64u]; omega, show IntKind.u64.wrap xi = xi from by rw [wrap64u]; omega, show IntKind.u64.wrap bk = bk from by rw [wrap64u]; omega, hws1, hp, hwp, hws2]
          obtain ⟨po, fo⟩ := HPO.out
          have hwd := HW.out.1
          have hdv : s / 4294967296 = C' := HW.out.2.2
          clear hp hws1 hwp hws2
          go_wp2
          go_roundw
          case rel => exact ⟨k + 1, out.set (i + k) dg, C', by omega, by go_num, rfl, hC0', hC1', HREL.out⟩
          case measure => simp [intOf]; omega
        · obtain rfl : nb = k := by omega
          have hvn : valN (out.set (i + nb) C) = valN (a.take (i + 1)) * valN b := by
            have h := hv.out
            have hlen := hM.out.len
            have h0 := hz.out (i + nb) (Nat.le_refl _)
            rw [HNB.out] at h hlen h0 ⊢
            exact mul_end h (by omega) h0 (by rw [HXI.out]; exact take_val a i)
          have hMs := hM.out.set (i + nb) ⟨hC0, hC1⟩
          have po := hM.out.cell (j := i + nb) (by omega)
          have fo := frozen_of hM.out.blk (i + nb)
          have HREL := Lib.hid (show Hid (Mw w g (na + nb + 1) (out.set (i + nb) C) (wr.setCell ⟨g, i + nb, none⟩ (.int .u32 C))) ∧ Hid (valN (out.set (i + nb) C) = valN (a.take (i + 1)) * valN b) ∧ Hid (∀ j, i + 1 + nb ≤ j → (out.set (i + nb) C).getD j 0 = 0) from
            ⟨Lib.hid hMs, Lib.hid hvn, Lib.hid (fun j hj => by rw [getD_set_far (by omega)]; exact hz.out j (by omega))⟩)
          have hwC : IntKind.u32.wrap C = C := by rw [wrap32u]; omega
          clear hvn hMs hM hv hz
          go_wp2
          go_roundw
          case rel => exact ⟨i + 1, out.set (i + nb) C, by omega, by go_num, HREL.out⟩
          case measure => simp [intOf]; omega
    · obtain rfl : na = i := by omega
      have hval := hv.out
      rw [valN_take_more a na (by rw [← HNA.out]; omega)] at hval
      have htr := trim_any wo (some ⟨g, 0, none⟩) (na + nb + 1) out (ReadsI.of_block hM.out.blk) hM.out.dig (by rw [hM.out.len]; omega) (by rw [hM.out.len]; omega)
      rw [hval, hM.out.len] at htr
      have HT := Lib.hid htr
      have HC := Lib.hid hM.out.chg
      clear hM hv hz hval htr
      go_wp2_with fail
      refine HT.out.mono ?_
      rintro e w2 ⟨v, mm, rfl, hN, h3, h4, h5⟩
      have HF := Lib.hid (show LP (valN a * valN b) w (.returned v) w2 from ⟨v, mm, rfl, New.after HC.out hN, h3, h4, h5⟩)
      clear hN h3 h4 h5
      go_wp2
      go_ret
      exact HF.out
/-- What a natural's operation hands back: the row, and no error. -/
def LPE (V : Int) (w : World) (e : Ending) (w' : World) : Prop := ∃ v m, e = .returned (.tuple #[v, .int .i64 0]) ∧ New 52 .u32 w w' v m ∧ Dig m ∧ trimL m = m ∧ valN m = V
set_option maxHeartbeats 1000000 in
theorem mul19_any (w : World) (A B : Option Addr) (c d : Nat) (a b : List Int) (hra : ReadsI w .u32 A a) (hrb : ReadsI w .u32 B b) (hda : Dig a) (hdb : Dig b) (hta : trimL a = a) (htb : trimL b = b) (hla : a.length ≤ 100) (hlb : b.length ≤ 100) (hV : valN a * valN b < 4294967296 ^ 200) : Calls Try.prog 19 #[.slice A a.length c, .slice B b.length d] w (LPE (valN a * valN b) w) := by
  have hfa := formed_any w A c a hra hta (by omega)
  have hfb := formed_any w B d b hrb htb (by omega)
  have hm := mul26_any w A B c d a b hra hrb hda hdb hla hlb
  have HFA := Lib.hid hfa
  have HFB := Lib.hid hfb
  have HMM := Lib.hid hm
  have HV := Lib.hid hV
  clear hra hrb hda hdb hta htb hfa hfb hm hV
  go_enter Try.func19, Try.ntmps19
  go_wp2_with fail
  refine HFA.out.mono ?_
  rintro e w1 ⟨rfl, rfl⟩
  go_wp2_with fail
  refine HFB.out.mono ?_
  rintro e w1 ⟨rfl, rfl⟩
  go_wp2_with fail
  refine HMM.out.mono ?_
  rintro e w1 ⟨v, m, rfl, hN, h3, h4, h5⟩
  have hml := trimL_low h3 h4 (by rw [h5]; exact HV.out)
  obtain ⟨A2, n2, c2, rfl, hn2, hr2⟩ := New.form3 hN
  have hbd := bounded_any w1 A2 n2 c2 (by omega)
  have HBD := Lib.hid hbd
  have HF := Lib.hid (show LPE (valN a * valN b) w (.returned (.tuple #[.slice A2 n2 c2, .int .i64 0])) w1 from ⟨_, m, rfl, hN, h3, h4, h5⟩)
  clear hN h3 h4 h5 hml hn2 hr2 hbd
  go_wp2_with fail
  refine HBD.out.mono ?_
  rintro e w2 ⟨rfl, rfl⟩
  simp only []
  go_wp2
  go_ret2
  exact HF.out
set_option maxHeartbeats 1000000 in
theorem add20_any (w : World) (A B : Option Addr) (c d : Nat) (a b : List Int) (hra : ReadsI w .u32 A a) (hrb : ReadsI w .u32 B b) (hda : Dig a) (hdb : Dig b) (hta : trimL a = a) (htb : trimL b = b) (hla : a.length ≤ 400) (hlb : b.length ≤ 400) (hV : valN a + valN b < 4294967296 ^ 200) : Calls Try.prog 20 #[.slice A a.length c, .slice B b.length d] w (LPE (valN a + valN b) w) := by
  have hfa := formed_any w A c a hra hta (by omega)
  have hfb := formed_any w B d b hrb htb (by omega)
  have hm := add27_any w A B c d a b hra hrb hda hdb hla hlb
  have HFA := Lib.hid hfa
  have HFB := Lib.hid hfb
  have HMM := Lib.hid hm
  have HV := Lib.hid hV
  clear hra hrb hda hdb hta htb hfa hfb hm hV
  go_enter Try.func20, Try.ntmps20
  go_wp2_with fail
  refine HFA.out.mono ?_
  rintro e w1 ⟨rfl, rfl⟩
  go_wp2_with fail
  refine HFB.out.mono ?_
  rintro e w1 ⟨rfl, rfl⟩
  go_wp2_with fail
  refine HMM.out.mono ?_
  rintro e w1 ⟨v, m, rfl, hN, h3, h4, h5⟩
  have hml := trimL_low h3 h4 (by rw [h5]; exact HV.out)
  obtain ⟨A2, n2, c2, rfl, hn2, hr2⟩ := New.form3 hN
  have hbd := bounded_any w1 A2 n2 c2 (by omega)
  have HBD := Lib.hid hbd
  have HF := Lib.hid (show LPE (valN a + valN b) w (.returned (.tuple #[.slice A2 n2 c2, .int .i64 0])) w1 from ⟨_, m, rfl, hN, h3, h4, h5⟩)
  clear hN h3 h4 h5 hml hn2 hr2 hbd
  go_wp2_with fail
  refine HBD.out.mono ?_
  rintro e w2 ⟨rfl, rfl⟩
  simp only []
  go_wp2
  go_ret2
  exact HF.out
end Go.Proofs.Ytpcebifdlgkccaa
