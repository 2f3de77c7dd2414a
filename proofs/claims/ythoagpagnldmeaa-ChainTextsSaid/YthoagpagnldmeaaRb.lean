/- The document's chain: its methods. -/
import Derived.Test.YthoagpagnldmeaaRa
import Derived.Deep.Cut
import Derived.Deep.RegionLaw
import Derived.RegionTactic
import Derived.ChangeAlike
set_option linter.unusedVariables false
set_option linter.unusedSimpArgs false
namespace Go.Proofs.Ythoagpagnldmeaa
open Go.RowKit Go.Ps
def mv (m : Int × Int) : Value := .agg #[.int .i64 m.1, .int .i64 m.2]
set_option maxRecDepth 20000 in
theorem rfresh_any {w : World} {c : Nat} {v : Value} {L : List (Int × Int)} {nx : Int} (z : Int) (h : RefW w c v L nx) (h0 : 0 ≤ nx) (h1 : nx < 1000000) :
    Calls Try.prog 62 #[.pointer (some ⟨c, 0, none⟩), .int .i64 z] w fun e w' => e = .returned (mv (nx + 1, z)) ∧ RefW w' c v L (nx + 1) ∧ Chg (fun k => k = c) w w' := by
  have hw := wrap_i (n := nx + 1) (by omega) (by omega)
  have hcl := heap_lt h.cell
  obtain ⟨r, hr⟩ : ∃ r, r = w.heap.size := ⟨_, rfl⟩
  obtain ⟨V, hV⟩ : ∃ V, V = w.alloc (.cells #[.int .i64 0, .int .i64 0] 49) := ⟨_, rfl⟩
  have hVC : Chg (fun _ => False) w V := by rw [hV]; exact (Chg.refl _ w).alloc _
  have hRV := h.chg hVC id (fun _ _ => id)
  have hrV : V.heap[r]? = some (.cells #[.int .i64 0, .int .i64 0] 49 (0, 0)) := by rw [hV, hr]; exact heap_alloc_at _ _
  have hrc : r ≠ c := by omega
  have hvr : ∀ k, v.ownBlock = some k → k ≠ r := fun k hk e => by have := h.own.lt hk; omega
  have FIN : Calls Try.prog 62 #[.pointer (some ⟨c, 0, none⟩), .int .i64 z] w fun e w' => e = .returned (mv (nx + 1, z)) ∧ w' = ((V.setCell ⟨c, 1, none⟩ (.int .i64 (nx + 1))).setCell ⟨r, 0, none⟩ (.int .i64 (nx + 1))).setCell ⟨r, 1, none⟩ (.int .i64 z) := by
    obtain ⟨x0, x1⟩ := read2 hRV.cell
    have f0 := frz hRV.cell
    obtain ⟨y0, y1⟩ := read2 hrV
    have f1 := frz hrV
    have HV := Lib.hid hV
    have HR := Lib.hid hr
    clear h h0 h1 hV hr hVC hRV hrV hvr hcl
    go_enter Try.func62, Try.ntmps62
    go_upto_region 1 with (fail)
    rw [← HV.out, ← HR.out]
    go_wp2
    exact bodyPost_ret (v := mv (nx + 1, z)) (by simp [results, Try.results62, go_sem, mv, y0, y1]) rfl ⟨rfl, rfl⟩
  refine FIN.mono ?_
  rintro e w' ⟨rfl, rfl⟩
  have hC1 : Chg (fun k => k = c) w (V.setCell ⟨c, 1, none⟩ (.int .i64 (nx + 1))) := (hVC.mono (G := fun k => k = c) (fun _ _ h => h.elim)).setCell (fun _ => rfl) _
  have hC3 : Chg (fun k => k = r) (V.setCell ⟨c, 1, none⟩ (.int .i64 (nx + 1))) (((V.setCell ⟨c, 1, none⟩ (.int .i64 (nx + 1))).setCell ⟨r, 0, none⟩ (.int .i64 (nx + 1))).setCell ⟨r, 1, none⟩ (.int .i64 z)) := chg1 (F := fun k => k = r) (chg1 (F := fun k => k = r) (Chg.refl _ _) rfl _) rfl _
  have hR1 : RefW (V.setCell ⟨c, 1, none⟩ (.int .i64 (nx + 1))) c v L (nx + 1) := ⟨by rw [heap_setCell hRV.cell]; rfl, hRV.own.chg (chg1 (F := fun k => k = c) (Chg.refl _ V) rfl _) (fun k hk e => hRV.vc (e ▸ hk)), hRV.vc⟩
  refine ⟨rfl, hR1.chg hC3 (Ne.symm hrc) (fun k hk => hvr k hk), ?_⟩
  exact hC1.trans hC3 (fun k hk e => by omega)
def fndI : List (Int × Int) → Int → Int → Int
  | [], _, _ => -1
  | p :: L, h, i => if p.1 = h then i else fndI L h (i + 1)
theorem drop_cons {α : Type} (L : List α) (d : α) (k : Nat) (h : k < L.length) : L.drop k = L.getD k d :: L.drop (k + 1) := by
  rw [List.drop_eq_getElem_cons h]
  congr 1
  rw [List.getD_eq_getElem?_getD, List.getElem?_eq_getElem h]
  rfl
set_option maxRecDepth 20000 in
set_option maxHeartbeats 1000000 in
theorem rfind_any {w : World} {c : Nat} {v : Value} {L : List (Int × Int)} {nx : Int} (hd : Int) (h : RefW w c v L nx) (hl : L.length ≤ 1000000) :
    Calls Try.prog 65 #[.pointer (some ⟨c, 0, none⟩), .int .i64 hd] w fun e w' => e = .returned (.int .i64 (fndI L hd 0)) ∧ w' = w := by
  obtain ⟨x0, x1⟩ := read2 h.cell
  obtain ⟨A, cp, rfl, hcp, hr, _, _⟩ := h.own.form
  obtain ⟨m, hm⟩ : ∃ m, m = L.length := ⟨_, rfl⟩
  rw [← hm] at x0
  obtain ⟨T, hT⟩ : ∃ T, T = fndI L hd 0 := ⟨_, rfl⟩
  rw [← hT]
  have HH := Lib.hid (⟨h, hl, hr, hm, hT⟩ : _ ∧ _ ∧ _ ∧ _ ∧ _)
  clear h hl hcp hr hm hT
  go_enter Try.func65, Try.ntmps65
  go_wp2
  go_loop [11] (fun i => ∃ k : Nat, i = .int .i64 k ∧ k ≤ L.length ∧ T = fndI (L.drop k) hd k) (fun i => L.length - (intOf i).toNat)
  case atStart => exact ⟨0, rfl, by omega, HH.out.2.2.2.2⟩
  case round =>
    obtain ⟨k, rfl, hk, hT⟩ := hrel
    obtain ⟨h, hl, hr, hm, hT0⟩ := HH.out
    clear hT0
    by_cases hkl : k < L.length
    · obtain ⟨a, rfl, hx⟩ := hr (by rintro rfl; simp at hkl)
      obtain ⟨g, o, c1, hg, hv⟩ : ∃ g o c1, a = ⟨g, o, none⟩ ∧ o = 0 ∧ c1 = 0 := by
        rcases h.own.2 with ⟨hv, _⟩ | ⟨g, cap, cur, hv, _⟩
        · cases hv
        · cases hv; exact ⟨g, 0, 0, rfl, rfl, rfl⟩
      obtain ⟨rfl, rfl⟩ := hv
      subst hg
      obtain ⟨x, hxe⟩ : ∃ x, x = L.getD k (0, 0) := ⟨_, rfl⟩
      have hc0 : w.cell? ⟨g, k * 2, none⟩ = some (.int .i64 x.1) := by
        have := hx (k * 2 + 0) (.int .i64 x.1) (by rw [layM.get (0, 0) L k 0 hkl (by omega), ← hxe]; rfl)
        rw [add_zero] at this
        exact this
      rw [drop_cons L (0, 0) k hkl, ← hxe, fndI] at hT
      have hkm : (k : Int) < m := by omega
      by_cases he : x.1 = hd
      · rw [if_pos he] at hT
        subst hT
        clear hx hxe hk hkl h hl hr hm HH
        go_wp2
        go_ret
        exact ⟨rfl, rfl⟩
      · rw [if_neg he] at hT
        have HW := Lib.hid (show wrap64 ((k : Int) + 1) = ((k + 1 : Nat) : Int) by unfold wrap64; omega)
        have HT := Lib.hid (show T = fndI (L.drop (k + 1)) hd ((k + 1 : Nat) : Int) from hT)
        have HK := Lib.hid hkl
        clear hx hxe hk hkl h hl hr hm HH hT
        go_wp2
        go_round
        case rel => exact ⟨k + 1, by rw [HW.out], HK.out, HT.out⟩
        case measure =>
          have h1 := HK.out
          rw [HW.out]
          simp only [intOf, Int.toNat_natCast]
          omega
    · have hkm : ¬ (k : Int) < m := by omega
      rw [List.drop_eq_nil_of_le (by omega), fndI] at hT
      subst hT
      clear h hl hr hm hk hkl HH
      go_wp2
      go_ret
      exact ⟨rfl, rfl⟩
def PutPost (c : Nat) (L' : List (Int × Int)) (nx : Int) (w : World) (r : Value) (e : Ending) (w' : World) : Prop :=
  ∃ v', e = .returned r ∧ RefW w' c v' L' nx ∧ Chg (fun k => k = c) w w' ∧ (∀ k, v'.ownBlock = some k → w.heap.size ≤ k)
theorem zsize : (Value.agg #[.int .i64 0, .int .i64 0]).cells.size = 2 := rfl
set_option maxRecDepth 20000 in
set_option maxHeartbeats 2000000 in
theorem rput_any {w : World} {c : Nat} {v : Value} {L : List (Int × Int)} {nx : Int} (i : Nat) (m : Int × Int) (h : RefW w c v L nx) (hi : i ≤ L.length) (hl : L.length ≤ 100000) :
    Calls Try.prog 61 #[.pointer (some ⟨c, 0, none⟩), .int .i64 i, mv m] w (PutPost c (L.take i ++ m :: L.drop i) nx w (.tuple #[])) := by
  obtain ⟨A, cp, rfl, hcp, _, _, _⟩ := h.own.form
  obtain ⟨r, hr⟩ : ∃ r, r = w.heap.size := ⟨_, rfl⟩
  obtain ⟨V, hV⟩ : ∃ V, V = w.alloc (.cells #[.int .i64 m.1, .int .i64 m.2] 49) := ⟨_, rfl⟩
  have hVC : Chg (fun _ => False) w V := by rw [hV]; exact (Chg.refl _ w).alloc _
  have hRV := h.chg hVC id (fun _ _ => id)
  have hrV : V.heap[r]? = some (.cells #[.int .i64 m.1, .int .i64 m.2] 49 (0, 0)) := by rw [hV, hr]; exact heap_alloc_at _ _
  have hreads : ∀ W, Chg (fun _ => False) V W → ReadsF W fmem A L := fun W hC => by
    obtain ⟨A2, c2, hv2, _, hr2, _⟩ := (hRV.chg hC id (fun _ _ => id)).own.form
    cases hv2
    exact hr2
  have hti : (L.take i).length = i := by rw [List.length_take]; omega
  have hdi : (L.drop i).length = L.length - i := List.length_drop
  -- first append
  obtain ⟨A1, c1, w1, hap1, ho1, hg1, hat1⟩ := (OwnF.nil V 49 2 fmem).appendF (P := Try.prog) layM 33 Try.underlying33 info49 zsize cp (by have := ReadsF.sub layM (c := cp) (hreads V (Chg.refl _ _)) 0 i hi hcp; rwa [List.drop_zero] at this) (by rw [hti]; simp; omega) (by omega)
  rw [hti] at hap1 hat1 ho1
  simp only [List.length_nil, Nat.zero_add, List.nil_append] at hap1 hat1 ho1
  have hC1 : Chg (fun _ => False) V w1 := (Chg.refl _ V).grown hg1 (fun k hk _ => by cases hk)
  have hf1 : ∀ k, Value.ownBlock (.slice A1 i c1) = some k → V.heap.size ≤ k := fun k hk => by
    rcases hat1 with e | e
    · rw [e] at hk; cases hk
    · rw [e] at hk; cases hk; exact Nat.le_refl _
  -- second append
  obtain ⟨A2, c2, w2, hap2, ho2, hg2, hat2⟩ := ho1.append1 (P := Try.prog) layM 33 Try.underlying33 info49 zsize m (by rw [hti]; omega) (by omega)
  rw [hti] at hap2 ho2 hat2
  have hC2 : Chg (fun _ => False) V w2 := hC1.grown hg2 (fun k hk hlt => by have := hf1 k hk; omega)
  have hf2 : ∀ k, Value.ownBlock (.slice A2 (i + 1) c2) = some k → V.heap.size ≤ k := fun k hk => by
    rcases hat2 k hk with e | e
    · exact hf1 k e
    · exact Nat.le_trans hC1.size e
  -- third append
  obtain ⟨A3, c3, w3, hap3, ho3, hg3, hat3⟩ := ho2.appendF (P := Try.prog) layM 33 Try.underlying33 info49 zsize (cp - i) (by have := ReadsF.sub layM (c := cp) (hreads w2 hC2) i L.length (Nat.le_refl _) hcp; rwa [List.take_length] at this) (by rw [hdi, List.length_append, hti]; simp; omega) (by omega)
  rw [hdi, List.length_append, hti, List.length_singleton] at hap3 hat3
  rw [hdi, List.length_append, hti, List.length_singleton] at ho3
  have hC3 : Chg (fun _ => False) V w3 := hC2.grown hg3 (fun k hk hlt => by have := hf2 k hk; omega)
  have hf3 : ∀ k, Value.ownBlock (.slice A3 (i + 1 + (L.length - i)) c3) = some k → V.heap.size ≤ k := fun k hk => by
    rcases hat3 with e | e
    · rw [e] at hk; exact hf2 k hk
    · rw [e] at hk; cases hk; exact hC2.size
  rw [List.append_assoc, List.singleton_append] at ho3
  obtain ⟨hR, hC4⟩ := hRV.put hC3 ho3 hf3
  have fin : PutPost c (L.take i ++ m :: L.drop i) nx w (.tuple #[]) (.returned (.tuple #[])) (w3.setCell ⟨c, 0, none⟩ (.slice A3 (i + 1 + (L.length - i)) c3)) :=
    ⟨_, rfl, hR, (hVC.mono (G := fun k => k = c) (fun _ _ h => h.elim)).trans hC4 (fun _ _ h => h), fun k hk => Nat.le_trans hVC.size (hf3 k hk)⟩
  have b0 := hRV.cell
  have b1 := chg_heap0 hC1 hrV
  have b2 := chg_heap0 hC2 hRV.cell
  have b3 := chg_heap0 hC3 hRV.cell
  obtain ⟨x0, x1⟩ := read2 b0
  obtain ⟨y0, y1⟩ := read2 b1
  obtain ⟨z0, z1⟩ := read2 b2
  obtain ⟨u0, u1⟩ := read2 b3
  have f3 := frz b3
  obtain ⟨n, hn⟩ : ∃ n, n = L.length := ⟨_, rfl⟩
  have hsH := run_cutFH Try.underlying33 size49 A n cp (kj := .i64) i (by omega)
  have hsL := run_cutFL Try.underlying33 size49 A n cp (ki := .i64) i (by omega) (by omega)
  rw [← hn] at x0 z0 u0 hap3 fin
  have FIN := Lib.hid fin
  have HV := Lib.hid hV
  have HR := Lib.hid hr
  clear h hi hl hcp hV hr hVC hRV hrV hreads hti hdi ho1 hg1 hat1 hC1 hf1 ho2 hg2 hat2 hC2 hf2 ho3 hg3 hat3 hC3 hf3 hR hC4 fin b0 b1 b2 b3 hn
  simp only [fmem] at hap2
  unfold mv
  go_enter Try.func61, Try.ntmps61
  go_upto_region 1 with (fail)
  rw [← HV.out, ← HR.out]
  go_wp2_with (first | (with_reducible refine wpList_slice_run rfl 33 _ none _ rfl _ _ none _ rfl rfl rfl (hsH _) ?_) | (with_reducible refine wpList_slice_run rfl 33 _ _ none rfl _ _ _ none rfl rfl rfl (hsL _) ?_) | (at_builtin; refine wpList_append_run rfl _ _ 33 rfl _ _ _ _ rfl rfl hap1 ?_) | (at_builtin; refine wpList_append_run rfl _ _ 33 rfl _ _ _ _ rfl rfl hap2 ?_) | (at_builtin; refine wpList_append_run rfl _ _ 33 rfl _ _ _ _ rfl rfl hap3 ?_))
  go_end0
  exact FIN.out
end Go.Proofs.Ythoagpagnldmeaa
