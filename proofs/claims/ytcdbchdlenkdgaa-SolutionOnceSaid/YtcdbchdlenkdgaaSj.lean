/- Solutions: the reference's Decode. -/
import Derived.Test.YtcdbchdlenkdgaaSi
import Derived.Test.YtcdbchdlenkdgaaSb
import Derived.Test.YtcdbchdlenkdgaaSc
import Derived.Deep.QuietTactic
import Derived.BigQuiet
set_option linter.unusedVariables false
set_option linter.unusedSimpArgs false
namespace Go.Proofs.Ytcdbchdlenkdgaa
open Go.RowKit Go.Ps

theorem comOf_succ (k : Nat) (ns : List Int) : comOf (k + 1) ns = comOf k ns ++ [ns.getD (1 + k) 0] := by unfold comOf; rw [List.range_succ, List.map_append]; rfl
theorem edgesOf_succ (p k : Nat) (ns : List Int) : edgesOf p (k + 1) ns = edgesOf p k ns ++ [(ns.getD (p + 3 * k) 0, ns.getD (p + 3 * k + 1) 0, ns.getD (p + 3 * k + 2) 0)] := by unfold edgesOf; rw [List.range_succ, List.map_append]; rfl
theorem all_range {n : Nat} {f : Nat → Bool} (h : ∀ j, j < n → f j = true) : (List.range n).all f = true := by simp only [List.all_eq_true, List.mem_range]; exact h
theorem not_all {n : Nat} {f : Nat → Bool} {j : Nat} (hj : j < n) (h : f j = false) : (List.range n).all f = false := by
  cases ha : (List.range n).all f with
  | false => rfl
  | true =>
    have := List.all_eq_true.1 ha j (List.mem_range.2 hj)
    rw [h] at this
    cases this
theorem rparse_1 {ns : List Int} (h : ns.length < 6 ∨ 8 < ns.getD 0 0 ∨ ns.length < 2 + (ns.getD 0 0).toNat) : rparse ns = (sol0, 2) := by unfold rparse; rw [if_pos h]
section
variable {ns : List Int} {m e : Nat} (hm : ns.getD 0 0 = (m : Int)) (he : ns.getD (1 + m) 0 = (e : Int)) (h1 : ¬ (ns.length < 6 ∨ 8 < m ∨ ns.length < 2 + m))
include hm he h1
theorem rparse_of : rparse ns = if 256 < e ∨ ns.length ≠ m + 3 * e + 6 then (sol0, 2) else if (List.range (1 + m)).all (low31 ns) = false then (sol0, 2) else
    if (List.range e).all (fun i => low31 ns (2 + m + 3 * i) && low31 ns (2 + m + 3 * i + 1)) = false then (sol0, 2) else if formedS (solOf m e ns) = true then (solOf m e ns, 0) else (sol0, 2) := by
  unfold rparse
  rw [hm, Int.toNat_natCast, he, Int.toNat_natCast, if_neg (by omega)]
  have : (256 < (e : Int) ∨ ns.length ≠ m + 3 * e + 6) ↔ (256 < e ∨ ns.length ≠ m + 3 * e + 6) := by omega
  simp only [this]
theorem rparse_2 (h : 256 < e ∨ ns.length ≠ m + 3 * e + 6) : rparse ns = (sol0, 2) := by rw [rparse_of hm he h1, if_pos h]
variable (h2 : ¬ (256 < e ∨ ns.length ≠ m + 3 * e + 6))
include h2
theorem rparse_3 {j : Nat} (hj : j < 1 + m) (h : low31 ns j = false) : rparse ns = (sol0, 2) := by rw [rparse_of hm he h1, if_neg h2, if_pos (not_all hj h)]
variable (h3 : ∀ j, j < 1 + m → low31 ns j = true)
include h3
theorem rparse_4 {j : Nat} (hj : j < e) (h : (low31 ns (2 + m + 3 * j) && low31 ns (2 + m + 3 * j + 1)) = false) : rparse ns = (sol0, 2) := by
  rw [rparse_of hm he h1, if_neg h2, if_neg (by rw [all_range h3]; simp), if_pos (not_all (f := fun i => low31 ns (2 + m + 3 * i) && low31 ns (2 + m + 3 * i + 1)) hj h)]
theorem rparse_5 (h4 : ∀ j, j < e → (low31 ns (2 + m + 3 * j) && low31 ns (2 + m + 3 * j + 1)) = true) : rparse ns = if formedS (solOf m e ns) = true then (solOf m e ns, 0) else (sol0, 2) := by
  rw [rparse_of hm he h1, if_neg h2, if_neg (by rw [all_range h3]; simp), if_neg (by rw [all_range (f := fun i => low31 ns (2 + m + 3 * i) && low31 ns (2 + m + 3 * i + 1)) h4]; simp)]
end
/-- The ref's Decode, where it was handed back ahead of the solution's block. -/
theorem bad35 {w W : World} {g0 : Nat} (hz : W.heap[g0]? = some zeroS) (hC : Chg (fun _ => False) w W) (hg : w.heap.size ≤ g0) {r : Sol × Int} {k : Int} (hr : r = (sol0, k)) : ∀ W', Chg (fun k => k = g0) W W' → SDecPost r w (.returned (.tuple #[sv sol0 none 0 none 0, .int .i64 k])) W' := fun W' hW' => by
  subst hr
  exact ⟨none, 0, none, 0, rfl, fun h => absurd rfl h, fun h => absurd rfl h, Nat.le_refl _, Nat.le_refl _, hC.trans hW' (fun k hk e => by omega)⟩
theorem encs_ge : ∀ (ns : List Int), ns.length ≤ (encs ns).length
  | [] => Nat.le_refl _
  | n :: ns => by
    have h1 := enc_pos n
    have h2 := encs_ge ns
    simp only [encs, List.length_append, List.length_cons]
    omega
theorem size24b : (Try.prog.info? 24).map (·.size) = some 1 := by kernel_rfl
set_option maxRecDepth 100000 in
set_option maxHeartbeats 8000000 in
theorem rsdecode_any (w : World) (A : Option Addr) (c : Nat) (l : List Int) (hr : ReadsI w .u8 A l) (hb : Bytes l) (hl : l.length ≤ 20000000000) (hcap : l.length ≤ c) : Calls Try.prog 35 #[.slice A l.length c] w (SDecPost (decS l) w) := by
  by_cases hlong : 20000 < l.length
  · have hd : decS l = (sol0, 4) := by unfold decS; rw [if_pos hlong]
    rw [hd]
    have fin : ∀ W, Chg (fun _ => False) w W → SDecPost (sol0, 4) w (.returned (.tuple #[sv sol0 none 0 none 0, .int .i64 4])) W := fun W hW => ⟨none, 0, none, 0, rfl, fun h => absurd rfl h, fun h => absurd rfl h, Nat.le_refl _, Nat.le_refl _, hW⟩
    have FIN := Lib.hid fin
    clear hr hb hd fin
    go_enter Try.func35, Try.ntmps35
    go_wp2
    exact bodyPost_ret (v := .tuple #[sv sol0 none 0 none 0, .int .i64 4]) (by simp [results, Try.results35, go_sem, sv, sol0]) rfl (FIN.out _ (by repeat (first | (with_reducible exact Chg.refl _ _) | (with_reducible refine Chg.alloc ?_ _))))
  obtain ⟨W0, hW0⟩ : ∃ W0, W0 = w.alloc (.cells #[.slice none 0 0, .slice none 0 0, .int .u64 0, .int .u64 0, .int .u64 0, .int .u64 0] 49) := ⟨_, rfl⟩
  obtain ⟨g0, hg0⟩ : ∃ g, g = w.heap.size := ⟨_, rfl⟩
  have hC0 : Chg (fun _ => False) w W0 := by rw [hW0]; exact (Chg.refl _ w).alloc _
  have hz0 : W0.heap[g0]? = some zeroS := by rw [hW0, hg0]; exact heap_alloc_at _ _
  have hgle : w.heap.size ≤ g0 := by omega
  have h53 := all_any W0 A c l (hr.chg hC0 (fun _ _ => id)) hb hl hcap
  have hdr := rdecS_eq hb
  have hok := fun ns h => rall_ok l.length l ns hb (Nat.le_refl _) h
  unfold rdecS at hdr
  rw [if_neg hlong] at hdr
  obtain ⟨T, hT⟩ : ∃ T, T = rall l.length l := ⟨_, rfl⟩
  rw [← hT] at h53 hdr hok
  have HW0 := Lib.hid hW0
  have HG0 := Lib.hid hg0
  have HZ0 := Lib.hid hz0
  have HC0 := Lib.hid hC0
  unfold AllPost at h53
  have H53 := Lib.hid h53
  cases T with
  | none =>
    have hd : decS l = (sol0, 2) := hdr.symm
    rw [hd]
    clear hdr hok hd hT h53 hW0 hg0 hz0 hC0 hr hb
    go_enter Try.func35, Try.ntmps35
    go_upto_region 3 with (fail)
    rw [← HW0.out, ← HG0.out]
    clear HW0 HG0
    go_wp2_with fail
    refine H53.out.mono ?_
    rintro e1 w1 ⟨v, rfl, hN⟩
    have hz1 := chg_heap hN.2.1 HZ0.out
    obtain ⟨z0, z1, z2, z3, z4, z5⟩ := read6 hz1
    have y0 := frozen_of hz1 0
    have y1 := frozen_of hz1 1
    have y2 := frozen_of hz1 2
    have y3 := frozen_of hz1 3
    have y4 := frozen_of hz1 4
    have y5 := frozen_of hz1 5
    have FZ := Lib.hid (bad35 hz1 (chg_trans HC0.out hN.2.1) hgle (r := (sol0, 2)) rfl)
    clear hN hz1
    simp only [Option.isSome_none]
    go_wp2
    exact bodyPost_ret (v := .tuple #[sv sol0 none 0 none 0, .int .i64 2]) (by simp [results, Try.results35, go_sem, sv, sol0, z0, z1, z2, z3, z4, z5]) rfl (FZ.out _ (by repeat (first | (with_reducible exact Chg.refl _ _) | (with_reducible refine chg_set_g ?_ _ _))))
  | some ns =>
    simp only at hdr
    obtain ⟨hen, hu⟩ := hok ns rfl
    have hnle : ns.length ≤ 20000 := by have := encs_ge ns; rw [hen] at this; omega
    have hg : ∀ i, U64' (ns.getD i 0) := getD_u64 ns hu
    obtain ⟨R, hR⟩ : ∃ R, R = decS l := ⟨_, rfl⟩
    rw [← hR] at hdr ⊢
    have HDR := Lib.hid hdr
    have HGU := Lib.hid hg
    clear hdr hok hT h53 hW0 hg0 hz0 hC0 hr hb hR hu
    obtain ⟨nl, hnl⟩ : ∃ n, n = ns.length := ⟨_, rfl⟩
    have hnl2 : nl ≤ 20000 := by omega
    have HNL := Lib.hid hnl
    clear hnl hnle hen
    go_enter Try.func35, Try.ntmps35
    go_upto_region 3 with (fail)
    rw [← HW0.out, ← HG0.out]
    clear HW0 HG0
    go_wp2_with fail
    refine H53.out.mono ?_
    rintro e1 w1 ⟨v, rfl, hN⟩
    simp only [Option.getD_some] at hN
    have hz1 := chg_heap hN.2.1 HZ0.out
    have HZ1 := Lib.hid hz1
    have HC1 := Lib.hid (chg_trans HC0.out hN.2.1)
    simp only [Option.isSome_some]
    by_cases h6 : nl < 6
    · obtain ⟨A5, n5, c5, rfl, hn5, hr5⟩ := New.form3 hN
      have FZ := Lib.hid (bad35 hz1 HC1.out hgle (r := R) (by rw [← HDR.out]; exact rparse_1 (.inl (by rw [← HNL.out]; exact h6))))
      obtain rfl : nl = n5 := by rw [hn5]; exact HNL.out
      obtain ⟨z0, z1, z2, z3, z4, z5⟩ := read6 HZ1.out
      have y0 := frozen_of HZ1.out 0
      have y1 := frozen_of HZ1.out 1
      have y2 := frozen_of HZ1.out 2
      have y3 := frozen_of HZ1.out 3
      have y4 := frozen_of HZ1.out 4
      have y5 := frozen_of HZ1.out 5
      clear hN hz1 hr5 hn5
      go_wp2
      exact bodyPost_ret (v := .tuple #[sv sol0 none 0 none 0, .int .i64 2]) (by simp [results, Try.results35, go_sem, sv, sol0, z0, z1, z2, z3, z4, z5]) rfl (FZ.out _ (by repeat (first | (with_reducible exact Chg.refl _ _) | (with_reducible refine chg_set_g ?_ _ _))))
    obtain ⟨g5, c5, cur, rfl, hob, hg5, hx5⟩ := hN.1.at_ (by have := HNL.out; omega)
    have hc5 := (New.cap hN).2
    have hrd : ReadsI w1 .u64 (some ⟨g5, 0, none⟩) ns := by
      obtain ⟨_, _, he, hr5⟩ := New.form hN
      cases he
      exact hr5
    have hf5 := hN.2.2 g5 hob
    have hlt5 := heap_lt hg5
    have hlt0 := heap_lt HZ0.out
    have hnec : g5 ≠ g0 := by omega
    rw [← HNL.out] at hc5 ⊢
    have hcells : ∀ i, i < nl → w1.cell? ⟨g5, i, none⟩ = some (.int .u64 (ns.getD i 0)) := fun i hi => cell_of hg5 i (hx5 i (by have := HNL.out; omega))
    have HCE := Lib.hid hcells
    have HRD := Lib.hid hrd
    have HLT := Lib.hid (And.intro hlt5 (And.intro hlt0 (And.intro hnec (show w.heap.size ≤ g5 from Nat.le_trans HC0.out.size hf5))))
    obtain ⟨m, hm⟩ : ∃ m : Nat, ns.getD 0 0 = m := ⟨(ns.getD 0 0).toNat, by have := (HGU.out 0).1; omega⟩
    have p0 := hcells 0 (by omega)
    rw [hm] at p0
    have HM := Lib.hid hm
    clear hN hz1 hob hg5 hx5 hrd hf5 hlt5 hlt0 hnec hcells hm
    by_cases h8 : 8 < m
    · have FZ := Lib.hid (bad35 HZ1.out HC1.out hgle (r := R) (by rw [← HDR.out]; exact rparse_1 (.inr (.inl (by rw [HM.out]; omega)))))
      obtain ⟨z0, z1, z2, z3, z4, z5⟩ := read6 HZ1.out
      have y0 := frozen_of HZ1.out 0
      have y1 := frozen_of HZ1.out 1
      have y2 := frozen_of HZ1.out 2
      have y3 := frozen_of HZ1.out 3
      have y4 := frozen_of HZ1.out 4
      have y5 := frozen_of HZ1.out 5
      go_wp2
      exact bodyPost_ret (v := .tuple #[sv sol0 none 0 none 0, .int .i64 2]) (by simp [results, Try.results35, go_sem, sv, sol0, z0, z1, z2, z3, z4, z5]) rfl (FZ.out _ (by repeat (first | (with_reducible exact Chg.refl _ _) | (with_reducible refine chg_set_g ?_ _ _))))
    have hw1 : IntKind.u64.wrap (nl : Int) = (nl : Int) := u64wrap (by omega)
    by_cases h2m : nl < 2 + m
    · have hlt2 : (nl : Int) < 2 + (m : Int) := by omega
      have FZ := Lib.hid (bad35 HZ1.out HC1.out hgle (r := R) (by rw [← HDR.out]; exact rparse_1 (.inr (.inr (by rw [HM.out, Int.toNat_natCast, ← HNL.out]; exact h2m)))))
      obtain ⟨z0, z1, z2, z3, z4, z5⟩ := read6 HZ1.out
      have y0 := frozen_of HZ1.out 0
      have y1 := frozen_of HZ1.out 1
      have y2 := frozen_of HZ1.out 2
      have y3 := frozen_of HZ1.out 3
      have y4 := frozen_of HZ1.out 4
      have y5 := frozen_of HZ1.out 5
      go_wp2
      exact bodyPost_ret (v := .tuple #[sv sol0 none 0 none 0, .int .i64 2]) (by simp [results, Try.results35, go_sem, sv, sol0, z0, z1, z2, z3, z4, z5]) rfl (FZ.out _ (by repeat (first | (with_reducible exact Chg.refl _ _) | (with_reducible refine chg_set_g ?_ _ _))))
    have h1n : ¬ (ns.length < 6 ∨ 8 < m ∨ ns.length < 2 + m) := by have := HNL.out; omega
    obtain ⟨e, he⟩ : ∃ e : Nat, ns.getD (1 + m) 0 = e := ⟨(ns.getD (1 + m) 0).toNat, by have := (HGU.out (1 + m)).1; omega⟩
    have p1 := HCE.out (1 + m) (by omega)
    rw [he] at p1
    have HE := Lib.hid he
    have H1N := Lib.hid h1n
    have hm2 : ¬ ((nl : Int) < 2 + (m : Int)) := by omega
    have H2M := Lib.hid (show 2 + m ≤ nl by omega)
    clear he h1n h2m hm2
    have hm2 : (2 : Int) + (m : Int) ≤ (nl : Int) := by have := H2M.out; omega
    have hw2 : IntKind.u64.wrap (2 + (m : Int)) = 2 + (m : Int) := u64wrap (by omega)
    go_wp2_with fail
    have hwm : IntKind.i64.wrap (m : Int) = (m : Int) := i64wrap (by omega)
    have hwm1 : IntKind.u64.wrap (1 + (m : Int)) = 1 + (m : Int) := u64wrap (by omega)
    have hi0 : (0 : Int) < (nl : Int) := by omega
    have hi1 : (0 : Int) ≤ 1 + (m : Int) := by omega
    have hi2 : 1 + (m : Int) < (nl : Int) := by omega
    have hi3 : (1 + (m : Int)).toNat = 1 + m := by omega
    refine wp_region_same (fun W => Chg (fun _ => False) w1 W) (by kernel_rfl) (by kernel_rfl) ((Chg.refl _ _).drew) ?_
    iterate 13 (apply wpDet_step (by rfl); (focus (intro W hW; have q0 := chg_cell hW p0 id; have q1 := chg_cell hW p1 id; go_simp; (with_reducible exact HasV.val hW))); simp only [Act.put, List.setIfInBounds_toArray, List.set_cons_zero, List.set_cons_succ])
    refine wpDet_nil ?_
    intro w2 hW2
    have hz2 := chg_heap hW2 HZ1.out
    have HZ2 := Lib.hid hz2
    have HC2 := Lib.hid (chg_trans HC1.out hW2)
    have HCE2 := Lib.hid (fun i hi => chg_cell hW2 (HCE.out i hi) id)
    have HRD2 := Lib.hid (HRD.out.chg hW2 (fun _ _ => id))
    have HLT2 := Lib.hid (show w1.heap.size ≤ w2.heap.size from hW2.size)
    clear hz2 hW2 p0 p1 hwm hwm1 hi0 hi1 hi2 hi3 hm2 hw2
    by_cases h256 : 256 < e
    · have FZ := Lib.hid (bad35 HZ2.out HC2.out hgle (r := R) (by rw [← HDR.out]; exact rparse_2 HM.out HE.out H1N.out (.inl h256)))
      obtain ⟨z0, z1, z2, z3, z4, z5⟩ := read6 HZ2.out
      have y0 := frozen_of HZ2.out 0
      have y1 := frozen_of HZ2.out 1
      have y2 := frozen_of HZ2.out 2
      have y3 := frozen_of HZ2.out 3
      have y4 := frozen_of HZ2.out 4
      have y5 := frozen_of HZ2.out 5
      go_wp2
      exact bodyPost_ret (v := .tuple #[sv sol0 none 0 none 0, .int .i64 2]) (by simp [results, Try.results35, go_sem, sv, sol0, z0, z1, z2, z3, z4, z5]) rfl (FZ.out _ (by repeat (first | (with_reducible exact Chg.refl _ _) | (with_reducible refine chg_set_g ?_ _ _))))
    have hwe : IntKind.i64.wrap (e : Int) = (e : Int) := i64wrap (by omega)
    by_cases hlen : nl = m + 3 * e + 6
    · have h2n : ¬ (256 < e ∨ ns.length ≠ m + 3 * e + 6) := by have := HNL.out; omega
      have H2N := Lib.hid h2n
      have HLEN := Lib.hid hlen
      have hleI : (nl : Int) = (m : Int) + 3 * (e : Int) + 6 := by omega
      have hneb : ((nl : Int) != 1 + (m : Int) + 1 + 3 * (e : Int) + 4) = false := by simp; omega
      have hsl := fun W => run_cutH (P := Try.prog) (kj := .i64) Try.underlying29 size24b (some ⟨g5, 0, none⟩) nl c5 (1 + m) (by omega) W
      have hsl2 : ∀ W : World, (Instr.sliceAt 29 (.slice (some ⟨g5, 0, none⟩) nl c5) none (some (.int .i64 (1 + (m : Int)))) none).run Try.prog W = .ok (.slice (cutA (some ⟨g5, 0, none⟩) 0 c5) (1 + m) c5) W := fun W => hsl W
      have HSL := Lib.hid hsl2
      clear hsl hsl2 h2n hlen hleI
      go_upto_region 9 with (fail)
      go_wp2_with (with_reducible refine wpList_slice_run rfl 29 _ none (some _) rfl _ _ none _ rfl rfl rfl (HSL.out _) ?_)
      go_loop [77] (fun i => ∃ k : Nat, k ≤ 1 + m ∧ i = .int .i64 k ∧ Hid (∀ j, j < k → low31 ns j = true)) (fun i => 1 + m - (intOf i).toNat)
      case atStart => exact ⟨0, by omega, rfl, Lib.hid (fun j hj => by omega)⟩
      case round =>
        obtain ⟨k, hk, rfl, hall⟩ := hrel
        by_cases hk2 : k < 1 + m
        · have hkn : k < nl := by have := H2M.out; omega
          have pk := HCE2.out k hkn
          obtain ⟨y, hy⟩ : ∃ y, y = ns.getD k 0 := ⟨_, rfl⟩
          have hlw : low31 ns k = decide (y ≤ 2147483647) := by rw [hy]; rfl
          rw [← hy] at pk
          have hkI : (k : Int) < 1 + (m : Int) := by omega
          have hknI : (k : Int) < (nl : Int) := by omega
          by_cases hle : y ≤ 2147483647
          · have HST := Lib.hid (show ∀ j, j < k + 1 → low31 ns j = true from fun j hj => by
              by_cases e : j = k
              · subst e; rw [hlw]; exact decide_eq_true hle
              · exact hall.out j (by omega))
            clear hall hlw hy
            go_wp2
            go_round
            case rel => exact ⟨k + 1, by omega, by go_num, HST⟩
            case measure => simp [intOf]; omega
          · have hle' : (2147483647 : Int) < y := by omega
            have FZ := Lib.hid (bad35 HZ2.out HC2.out hgle (r := R) (by rw [← HDR.out]; exact rparse_3 HM.out HE.out H1N.out H2N.out hk2 (by rw [hlw]; exact decide_eq_false hle)))
            clear hall hlw hy hle
            obtain ⟨z0, z1, z2, z3, z4, z5⟩ := read6 HZ2.out
            have y0 := frozen_of HZ2.out 0
            have y1 := frozen_of HZ2.out 1
            have y2 := frozen_of HZ2.out 2
            have y3 := frozen_of HZ2.out 3
            have y4 := frozen_of HZ2.out 4
            have y5 := frozen_of HZ2.out 5
            go_wp2
            exact bodyPost_ret (v := .tuple #[sv sol0 none 0 none 0, .int .i64 2]) (by simp [results, Try.results35, go_sem, sv, sol0, z0, z1, z2, z3, z4, z5]) rfl (FZ.out _ (by repeat (first | (with_reducible exact Chg.refl _ _) | (with_reducible refine chg_set_g ?_ _ _))))
        · obtain rfl : k = 1 + m := by omega
          have H3 := hall
          obtain ⟨w3, hw3⟩ : ∃ w3, w3 = w2.alloc (.cells #[.slice none 0 0, .slice none 0 0, .int .u64 0, .int .u64 0, .int .u64 0, .int .u64 0] 49) := ⟨_, rfl⟩
          obtain ⟨gx, hgx⟩ : ∃ g, g = w2.heap.size := ⟨_, rfl⟩
          have hD3 : Dx w g0 g5 gx ns sol0 (.slice none 0 0) (.slice none 0 0) w3 := by
            obtain ⟨l1, l2, l3, l4⟩ := HLT.out
            have l5 := HLT2.out
            have l6 := heap_lt HZ2.out
            have l7 := HC2.out.size
            refine ⟨?_, ?_, ?_, ?_, Own.nil _ _ _, OwnF.nil _ _ _ _, (fun k hk => by cases hk), (fun k hk => by cases hk), ?_, by omega⟩
            · rw [hw3]; exact HRD2.out.alloc _
            · rw [hw3]; simp; omega
            · rw [hw3, hgx]; exact heap_alloc_at _ _
            · rw [hw3]; exact heap_alloc_ne HZ2.out
            · rw [hw3]; exact HC2.out.alloc _
          have HD3 := Lib.hid hD3
          have HW3 := Lib.hid hw3
          have HGX := Lib.hid hgx
          have HKK := Lib.hid (And.intro hk hk2)
          clear hall hD3 hw3 hgx HSL hk hk2
          go_upto_region 16 with (fail)
          rw [← HW3.out, ← HGX.out]
          clear HW3 HGX HKK
          go_wp2
          go_loopw [88] (fun i wr => ∃ (k : Nat) (VA : Value), k ≤ m ∧ i = .int .i64 k ∧ Hid (Dx w g0 g5 gx ns ⟨comOf k ns, [], 0, 0, 0, 0⟩ VA (.slice none 0 0) wr)) (fun i _ => m - (intOf i).toNat)
          case atStart => exact ⟨0, _, by omega, rfl, HD3⟩
          case round =>
            obtain ⟨k, VA, hk, rfl, hD⟩ := hrel
            by_cases hk2 : k < m
            · have hkn : 1 + k < nl := by have := H2M.out; omega
              have hrk : ∀ W, ReadsI W .u64 (some ⟨g5, 0, none⟩) ns → W.cell? ⟨g5, 1 + k, none⟩ = some (.int .u64 (ns.getD (1 + k) 0)) := fun W hR => by
                have h := hR.mem (1 + k) (by have := HNL.out; omega)
                rwa [add_zero] at h
              have hlow := H3.out (1 + k) (by omega)
              have hpos := (HGU.out (1 + k)).1
              have hcs := comOf_succ k ns
              obtain ⟨y, hy⟩ : ∃ y, y = ns.getD (1 + k) 0 := ⟨_, rfl⟩
              have hle : y ≤ 2147483647 := by rw [hy]; exact of_decide_eq_true hlow
              rw [← hy] at hrk hpos hcs
              have hDd := hD.out.grow (Chg.refl _ wr).drew
              have hcc : wr.drew.cell? ⟨gx, 0, none⟩ = some VA ∧ wr.drew.cell? ⟨g5, 1 + k, none⟩ = some (.int .u64 y) := ⟨hDd.cells.1, hrk _ hDd.rd⟩
              have hwy : IntKind.i64.wrap y = y := i64wrap (by omega)
              obtain ⟨A8, n8, c8, w8, hrun, hv5, hf5, hr8, hD8⟩ := hDd.pushA y (by simp [comOf]; omega)
              rw [← hcs] at hD8
              have HD8 := Lib.hid hD8
              have HRUN := Lib.hid hrun
              have HDD := Lib.hid hDd
              have hwk : IntKind.i64.wrap (1 + (k : Int)) = 1 + (k : Int) := i64wrap (by omega)
              have hi1 : (0 : Int) ≤ 1 + (k : Int) := by omega
              have hi2 : 1 + (k : Int) < (nl : Int) := by omega
              have hi3 : (1 + (k : Int)).toNat = 1 + k := by omega
              have hk2I : (k : Int) < (m : Int) := by omega
              have HRK := Lib.hid hrk
              clear hD hrk hlow hpos hcs hy hle hDd hrun hD8
              go_wp2_with fail
              refine H.wp_region_seq (fun W => W.cell? ⟨gx, 0, none⟩ = some VA ∧ W.cell? ⟨g5, 1 + k, none⟩ = some (.int .u64 y)) [(0, 0), (1, 0), (2, 0), (3, 0), (4, 0), (5, 0), (6, 0), (7, 0), (8, 1), (9, 1), (10, 0), (11, 1)] (by kernel_rfl) (by kernel_rfl) (by kernel_rfl) hcc ?_
              iterate 8 (apply H.look (by rfl) (by rfl); (focus (intro W hW; obtain ⟨q0, q1⟩ := hW; go_simp; exact HasV.val rfl)); simp only [Act.put, List.setIfInBounds_toArray, List.set_cons_zero, List.set_cons_succ])
              refine H.link (fun v W => v = .slice (some ⟨wr.heap.size, 0, none⟩) 1 1 ∧ W = wr.drew.alloc (.cells #[.int .i64 y] 3)) (by rfl) (by rfl) ?_ (fun v W hR => by rw [hR.2]; exact ⟨cell_of (heap_alloc_ne HDD.out.cell) 0 rfl, HRK.out _ (HDD.out.rd.alloc _)⟩) ?_
              · go_simp
                exact H.HasR.val ⟨rfl, rfl⟩
              rintro v W ⟨rfl, rfl⟩
              simp only [Act.put, List.setIfInBounds_toArray, List.set_cons_zero, List.set_cons_succ]
              refine H.link (fun v W => v = .slice A8 n8 c8 ∧ W = w8) (by rfl) (by rfl) ?_ (fun v W hR => by rw [hR.2]; exact ⟨hv5, HRK.out _ hr8⟩) ?_
              · exact H.hasR_append (.tmp 92) (.tmp 99) 44 rfl _ _ _ _ rfl rfl HRUN.out ⟨rfl, rfl⟩
              rintro v W ⟨rfl, hW⟩
              obtain rfl : w8 = W := hW.symm
              simp only [Act.put, List.setIfInBounds_toArray, List.set_cons_zero, List.set_cons_succ]
              (apply H.look (by rfl) (by rfl); (focus (intro W hW; go_simp; exact HasV.val rfl)); simp only [Act.put, List.setIfInBounds_toArray, List.set_cons_zero, List.set_cons_succ])
              refine H.final (fun v W => v = undef ∧ W = w8.setCell ⟨gx, 0, none⟩ (.slice A8 n8 c8)) (by rfl) (by rfl) (by kernel_rfl) ?_ ?_
              · go_simp
                exact H.HasR.skip ⟨rfl, rfl⟩
              rintro v W ⟨rfl, rfl⟩
              simp only [Act.put, List.setIfInBounds_toArray, List.set_cons_zero, List.set_cons_succ]
              refine H.fin ?_
              clear hv5 hf5 hr8 hcc HRUN HDD HRK hwk hi1 hi2 hi3 hwy
              go_wp2
              go_roundw
              case rel => exact ⟨k + 1, _, by omega, by go_num, HD8⟩
              case measure => simp [intOf]; omega
            · obtain rfl : m = k := by omega
              have HDA := hD
              clear hD
              go_wp2_with fail
              go_loopw [11, 106] (fun at_ i wr => ∃ (k P : Nat) (VB : Value), k ≤ e ∧ at_ = .int .i64 P ∧ i = .int .u64 k ∧ Hid (P = 2 + m + 3 * k) ∧ P ≤ nl ∧ Hid (∀ j, j < k → (low31 ns (2 + m + 3 * j) && low31 ns (2 + m + 3 * j + 1)) = true) ∧ Hid (Dx w g0 g5 gx ns ⟨comOf m ns, edgesOf (2 + m) k ns, 0, 0, 0, 0⟩ VA VB wr)) (fun _ i _ => e - (intOf i).toNat)
              case atStart => exact ⟨0, 2 + m, _, by omega, by go_num, rfl, Lib.hid (by omega), by have := H2M.out; omega, Lib.hid (fun j hj => by omega), HDA⟩
              case round =>
                obtain ⟨k, P, VB, hk, rfl, rfl, hP, hPn, hall, hD⟩ := hrel
                by_cases hk2 : k < e
                · have hP3 : P + 3 ≤ nl := by have := hP.out; have := HLEN.out; omega
                  have hrk : ∀ W, ReadsI W .u64 (some ⟨g5, 0, none⟩) ns → W.cell? ⟨g5, P, none⟩ = some (.int .u64 (ns.getD P 0)) ∧ W.cell? ⟨g5, P + 1, none⟩ = some (.int .u64 (ns.getD (P + 1) 0)) ∧ W.cell? ⟨g5, P + 2, none⟩ = some (.int .u64 (ns.getD (P + 2) 0)) := fun W hR => by
                    have h0 := hR.mem P (by have := HNL.out; omega)
                    have h1 := hR.mem (P + 1) (by have := HNL.out; omega)
                    have h2 := hR.mem (P + 2) (by have := HNL.out; omega)
                    rw [add_zero] at h0 h1 h2
                    exact ⟨h0, h1, h2⟩
                  have hpa := (HGU.out P).1
                  have hpb := (HGU.out (P + 1)).1
                  have hes := edgesOf_succ (2 + m) k ns
                  have hl0 : low31 ns (2 + m + 3 * k) = decide (ns.getD P 0 ≤ 2147483647) := by rw [← hP.out]; rfl
                  have hl1 : low31 ns (2 + m + 3 * k + 1) = decide (ns.getD (P + 1) 0 ≤ 2147483647) := by rw [← hP.out]; rfl
                  rw [← hP.out] at hes
                  obtain ⟨ya, hya⟩ : ∃ y, y = ns.getD P 0 := ⟨_, rfl⟩
                  obtain ⟨yb, hyb⟩ : ∃ y, y = ns.getD (P + 1) 0 := ⟨_, rfl⟩
                  obtain ⟨yc, hyc⟩ : ∃ y, y = ns.getD (P + 2) 0 := ⟨_, rfl⟩
                  rw [← hya] at hrk hpa hes hl0
                  rw [← hyb] at hrk hpb hes hl1
                  rw [← hyc] at hrk hes
                  obtain ⟨a0, a1, a2⟩ := hrk _ hD.out.rd
                  have hw1 : IntKind.i64.wrap ((P : Int) + 1) = (P : Int) + 1 := i64wrap (by omega)
                  have hw2 : IntKind.i64.wrap ((P : Int) + 2) = (P : Int) + 2 := i64wrap (by omega)
                  have hkI : (k : Int) < (e : Int) := by omega
                  have hHP := Lib.hid hrk
                  have HHE := Lib.hid hes
                  have HL0 := Lib.hid hl0
                  have HL1 := Lib.hid hl1
                  clear hrk hes hl0 hl1 hya hyb hyc
                  by_cases hla : ya ≤ 2147483647
                  · by_cases hlb : yb ≤ 2147483647
                    · have HST := Lib.hid (show ∀ j, j < k + 1 → (low31 ns (2 + m + 3 * j) && low31 ns (2 + m + 3 * j + 1)) = true from fun j hj => by
                        by_cases e : j = k
                        · subst e; rw [HL0.out, HL1.out, decide_eq_true hla, decide_eq_true hlb]; rfl
                        · exact hall.out j (by omega))
                      have hDd := hD.out.grow (Chg.refl _ wr).drew
                      have hcc : wr.drew.cell? ⟨gx, 1, none⟩ = some VB ∧ wr.drew.cell? ⟨g5, P, none⟩ = some (.int .u64 ya) ∧ wr.drew.cell? ⟨g5, P + 1, none⟩ = some (.int .u64 yb) ∧ wr.drew.cell? ⟨g5, P + 2, none⟩ = some (.int .u64 yc) := ⟨hDd.cells.2.1, hHP.out _ hDd.rd⟩
                      have hwa : IntKind.i64.wrap ya = ya := i64wrap (by omega)
                      have hwb : IntKind.i64.wrap yb = yb := i64wrap (by omega)
                      obtain ⟨A8, n8, c8, w8, hrun, hv5, hf5, hr8, hD8⟩ := hDd.pushB (ya, yb, yc) (by simp [edgesOf]; omega)
                      simp only at hrun hD8
                      rw [← HHE.out] at hD8
                      have HD8 := Lib.hid hD8
                      have HRUN := Lib.hid hrun
                      have HDD := Lib.hid hDd
                      have HALL := hall
                      have HPP := hP
                      have hi0 : (0 : Int) ≤ (P : Int) + 1 := by omega
                      have hi1 : (0 : Int) ≤ (P : Int) + 2 := by omega
                      have hi2 : (P : Int) + 1 < (nl : Int) := by omega
                      have hi3 : (P : Int) + 2 < (nl : Int) := by omega
                      have hi4 : (P : Int) < (nl : Int) := by omega
                      have hi5 : ((P : Int) + 1).toNat = P + 1 := by omega
                      have hi6 : ((P : Int) + 2).toNat = P + 2 := by omega
                      clear hD hDd hrun hD8 hall hP
                      go_wp2_with fail
                      refine H.wp_region_seq (fun W => W.cell? ⟨gx, 1, none⟩ = some VB ∧ W.cell? ⟨g5, P, none⟩ = some (.int .u64 ya) ∧ W.cell? ⟨g5, P + 1, none⟩ = some (.int .u64 yb) ∧ W.cell? ⟨g5, P + 2, none⟩ = some (.int .u64 yc)) [(0, 0), (1, 0), (2, 0), (3, 0), (4, 0), (5, 0), (6, 0), (7, 0), (8, 0), (9, 0), (10, 0), (11, 0), (12, 0), (13, 0), (14, 0), (15, 0), (16, 0), (17, 0), (18, 0), (19, 1), (20, 1), (21, 0), (22, 1)] (by kernel_rfl) (by kernel_rfl) (by kernel_rfl) hcc ?_
                      iterate 19 (apply H.look (by rfl) (by rfl); (focus (intro W hW; obtain ⟨q0, q1, q2, q3⟩ := hW; go_simp; exact HasV.val rfl)); simp only [Act.put, List.setIfInBounds_toArray, List.set_cons_zero, List.set_cons_succ])
                      refine H.link (fun v W => v = .slice (some ⟨wr.heap.size, 0, none⟩) 1 1 ∧ W = wr.drew.alloc (.cells #[.int .i64 ya, .int .i64 yb, .int .u64 yc] 74)) (by rfl) (by rfl) ?_ (fun v W hR => by rw [hR.2]; exact ⟨cell_of (heap_alloc_ne HDD.out.cell) 1 rfl, hHP.out _ (HDD.out.rd.alloc _)⟩) ?_
                      · go_simp
                        exact H.HasR.val ⟨rfl, rfl⟩
                      rintro v W ⟨rfl, rfl⟩
                      simp only [Act.put, List.setIfInBounds_toArray, List.set_cons_zero, List.set_cons_succ]
                      refine H.link (fun v W => v = .slice A8 n8 c8 ∧ W = w8) (by rfl) (by rfl) ?_ (fun v W hR => by rw [hR.2]; exact ⟨hv5, hHP.out _ hr8⟩) ?_
                      · exact H.hasR_append (.tmp 123) (.tmp 141) 45 rfl _ _ _ _ rfl rfl HRUN.out ⟨rfl, rfl⟩
                      rintro v W ⟨rfl, hW⟩
                      obtain rfl : w8 = W := hW.symm
                      simp only [Act.put, List.setIfInBounds_toArray, List.set_cons_zero, List.set_cons_succ]
                      (apply H.look (by rfl) (by rfl); (focus (intro W hW; go_simp; exact HasV.val rfl)); simp only [Act.put, List.setIfInBounds_toArray, List.set_cons_zero, List.set_cons_succ])
                      refine H.final (fun v W => v = undef ∧ W = w8.setCell ⟨gx, 1, none⟩ (.slice A8 n8 c8)) (by rfl) (by rfl) (by kernel_rfl) ?_ ?_
                      · go_simp
                        exact H.HasR.skip ⟨rfl, rfl⟩
                      rintro v W ⟨rfl, rfl⟩
                      simp only [Act.put, List.setIfInBounds_toArray, List.set_cons_zero, List.set_cons_succ]
                      refine H.fin ?_
                      clear hv5 hf5 hr8 hcc HRUN HDD hHP a0 a1 a2 hw1 hw2 hwa hwb hi0 hi1 hi2 hi3 hi4 hi5 hi6
                      go_wp2
                      go_roundw
                      case rel => exact ⟨k + 1, P + 3, _, by omega, by go_num, by go_num, Lib.hid (by have := HPP.out; omega), by omega, HST, HD8⟩
                      case measure => simp [intOf]; omega
                    · have hlb' : (2147483647 : Int) < yb := by omega
                      have FZ := Lib.hid (hD.out.bad (r := R) (by rw [← HDR.out]; exact rparse_4 HM.out HE.out H1N.out H2N.out H3.out hk2 (by rw [HL0.out, HL1.out, decide_eq_false hlb]; simp)))
                      obtain ⟨z0, z1, z2, z3, z4, z5⟩ := read6 hD.out.zero
                      have y0 := frozen_of hD.out.zero 0
                      have y1 := frozen_of hD.out.zero 1
                      have y2 := frozen_of hD.out.zero 2
                      have y3 := frozen_of hD.out.zero 3
                      have y4 := frozen_of hD.out.zero 4
                      have y5 := frozen_of hD.out.zero 5
                      clear hall hP hlb
                      go_wp2
                      exact bodyPost_ret (v := .tuple #[sv sol0 none 0 none 0, .int .i64 2]) (by simp [results, Try.results35, go_sem, sv, sol0, z0, z1, z2, z3, z4, z5]) rfl (FZ.out _ (by repeat (first | (with_reducible exact Chg.refl _ _) | (with_reducible refine chg_set_g ?_ _ _))))
                  · have hla' : (2147483647 : Int) < ya := by omega
                    have FZ := Lib.hid (hD.out.bad (r := R) (by rw [← HDR.out]; exact rparse_4 HM.out HE.out H1N.out H2N.out H3.out hk2 (by rw [HL0.out, decide_eq_false hla]; simp)))
                    obtain ⟨z0, z1, z2, z3, z4, z5⟩ := read6 hD.out.zero
                    have y0 := frozen_of hD.out.zero 0
                    have y1 := frozen_of hD.out.zero 1
                    have y2 := frozen_of hD.out.zero 2
                    have y3 := frozen_of hD.out.zero 3
                    have y4 := frozen_of hD.out.zero 4
                    have y5 := frozen_of hD.out.zero 5
                    clear hall hP hla
                    go_wp2
                    exact bodyPost_ret (v := .tuple #[sv sol0 none 0 none 0, .int .i64 2]) (by simp [results, Try.results35, go_sem, sv, sol0, z0, z1, z2, z3, z4, z5]) rfl (FZ.out _ (by repeat (first | (with_reducible exact Chg.refl _ _) | (with_reducible refine chg_set_g ?_ _ _))))
                · obtain rfl : e = k := by omega
                  have hP4 : P + 4 = nl := by have := hP.out; have := HLEN.out; omega
                  have hrk : ∀ W, ReadsI W .u64 (some ⟨g5, 0, none⟩) ns → W.cell? ⟨g5, P, none⟩ = some (.int .u64 (ns.getD P 0)) ∧ W.cell? ⟨g5, P + 1, none⟩ = some (.int .u64 (ns.getD (P + 1) 0)) ∧ W.cell? ⟨g5, P + 2, none⟩ = some (.int .u64 (ns.getD (P + 2) 0)) ∧ W.cell? ⟨g5, P + 3, none⟩ = some (.int .u64 (ns.getD (P + 3) 0)) := fun W hR => by
                    have h0 := hR.mem P (by have := HNL.out; omega)
                    have h1 := hR.mem (P + 1) (by have := HNL.out; omega)
                    have h2 := hR.mem (P + 2) (by have := HNL.out; omega)
                    have h3 := hR.mem (P + 3) (by have := HNL.out; omega)
                    rw [add_zero] at h0 h1 h2 h3
                    exact ⟨h0, h1, h2, h3⟩
                  have hsol : solOf m e ns = ⟨comOf m ns, edgesOf (2 + m) e ns, ns.getD P 0, ns.getD (P + 1) 0, ns.getD (P + 2) 0, ns.getD (P + 3) 0⟩ := by rw [hP.out]; rfl
                  have hrp := rparse_5 HM.out HE.out H1N.out H2N.out H3.out hall.out
                  obtain ⟨ya, hya⟩ : ∃ y, y = ns.getD P 0 := ⟨_, rfl⟩
                  obtain ⟨yb, hyb⟩ : ∃ y, y = ns.getD (P + 1) 0 := ⟨_, rfl⟩
                  obtain ⟨yc, hyc⟩ : ∃ y, y = ns.getD (P + 2) 0 := ⟨_, rfl⟩
                  obtain ⟨yd, hyd⟩ : ∃ y, y = ns.getD (P + 3) 0 := ⟨_, rfl⟩
                  rw [← hya, ← hyb, ← hyc, ← hyd] at hsol
                  rw [← hya, ← hyb, ← hyc, ← hyd] at hrk
                  have hDd := hD.out.grow (Chg.refl _ wr).drew
                  obtain ⟨a0, a1, a2, a3⟩ := hrk _ hDd.rd
                  have hcc : wr.drew.cell? ⟨g5, P, none⟩ = some (.int .u64 ya) ∧ wr.drew.cell? ⟨g5, P + 1, none⟩ = some (.int .u64 yb) ∧ wr.drew.cell? ⟨g5, P + 2, none⟩ = some (.int .u64 yc) ∧ wr.drew.cell? ⟨g5, P + 3, none⟩ = some (.int .u64 yd) := ⟨a0, a1, a2, a3⟩
                  have hD1 := hDd.put (x' := ⟨comOf m ns, edgesOf (2 + m) e ns, ya, 0, 0, 0⟩) 2 (.int .u64 ya) rfl rfl rfl
                  have hD2 := hD1.put (x' := ⟨comOf m ns, edgesOf (2 + m) e ns, ya, yb, 0, 0⟩) 3 (.int .u64 yb) rfl rfl rfl
                  have hD3 := hD2.put (x' := ⟨comOf m ns, edgesOf (2 + m) e ns, ya, yb, yc, 0⟩) 4 (.int .u64 yc) rfl rfl rfl
                  have hD4 := hD3.put (x' := ⟨comOf m ns, edgesOf (2 + m) e ns, ya, yb, yc, yd⟩) 5 (.int .u64 yd) rfl rfl rfl
                  have d2 := hDd.cells.2.2.1
                  have d2' : wr.cell? ⟨gx, 2, none⟩ = some (.int .u64 0) := hD.out.cells.2.2.1
                  have d3' : wr.cell? ⟨gx, 3, none⟩ = some (.int .u64 0) := hD.out.cells.2.2.2.1
                  have d4' : wr.cell? ⟨gx, 4, none⟩ = some (.int .u64 0) := hD.out.cells.2.2.2.2.1
                  have d5' : wr.cell? ⟨gx, 5, none⟩ = some (.int .u64 0) := hD.out.cells.2.2.2.2.2
                  have df2 := hD.out.frz 2
                  have df3 := hD.out.frz 3
                  have df4 := hD.out.frz 4
                  have df5 := hD.out.frz 5
                  rw [hsol] at hrp
                  have HD4 := Lib.hid hD4
                  have HRP := Lib.hid (show R = _ from HDR.out.symm.trans hrp)
                  have hw1 : IntKind.i64.wrap ((P : Int) + 1) = (P : Int) + 1 := i64wrap (by omega)
                  have hw2 : IntKind.i64.wrap ((P : Int) + 2) = (P : Int) + 2 := i64wrap (by omega)
                  have hw3 : IntKind.i64.wrap ((P : Int) + 3) = (P : Int) + 3 := i64wrap (by omega)
                  have hi0 : (0 : Int) ≤ (P : Int) + 1 := by omega
                  have hi1 : (0 : Int) ≤ (P : Int) + 2 := by omega
                  have hj1 : (0 : Int) ≤ (P : Int) + 3 := by omega
                  have hi2 : (P : Int) + 1 < (nl : Int) := by omega
                  have hi3 : (P : Int) + 2 < (nl : Int) := by omega
                  have hj3 : (P : Int) + 3 < (nl : Int) := by omega
                  have hi4 : (P : Int) < (nl : Int) := by omega
                  have hi5 : ((P : Int) + 1).toNat = P + 1 := by omega
                  have hi6 : ((P : Int) + 2).toNat = P + 2 := by omega
                  have hj6 : ((P : Int) + 3).toNat = P + 3 := by omega
                  clear hD hDd hD1 hD2 hD3 hD4 hall hP hP4 hrk hsol hrp hya hyb hyc hyd a0 a1 a2 a3
                  go_wp2_with fail
                  refine H.wp_region_seq (fun W => W.cell? ⟨g5, P, none⟩ = some (.int .u64 ya) ∧ W.cell? ⟨g5, P + 1, none⟩ = some (.int .u64 yb) ∧ W.cell? ⟨g5, P + 2, none⟩ = some (.int .u64 yc) ∧ W.cell? ⟨g5, P + 3, none⟩ = some (.int .u64 yd)) [(0, 0), (1, 0), (2, 0), (3, 0), (4, 0), (5, 0), (6, 0), (7, 0), (8, 0), (9, 0), (10, 0), (11, 0), (12, 0), (13, 0), (14, 0), (15, 0), (16, 0), (17, 0), (18, 0), (19, 0), (20, 0), (21, 1)] (by kernel_rfl) (by kernel_rfl) (by kernel_rfl) hcc ?_
                  iterate 21 (apply H.look (by rfl) (by rfl); (focus (intro W hW; obtain ⟨q0, q1, q2, q3⟩ := hW; go_simp; exact HasV.val rfl)); simp only [Act.put, List.setIfInBounds_toArray, List.set_cons_zero, List.set_cons_succ])
                  refine H.final (fun v W => v = undef ∧ W = (((wr.drew.setCell ⟨gx, 2, none⟩ (.int .u64 ya)).setCell ⟨gx, 3, none⟩ (.int .u64 yb)).setCell ⟨gx, 4, none⟩ (.int .u64 yc)).setCell ⟨gx, 5, none⟩ (.int .u64 yd)) (by rfl) (by rfl) (by kernel_rfl) ?_ ?_
                  · go_simp
                    exact H.HasR.skip ⟨rfl, rfl⟩
                  rintro v W ⟨rfl, hW⟩
                  rw [← hW] at HD4
                  simp only [Act.put, List.setIfInBounds_toArray, List.set_cons_zero, List.set_cons_succ]
                  refine H.fin ?_
                  clear hW hcc d2 d2' d3' d4' d5' df2 df3 df4 df5 hw1 hw2 hw3 hi0 hi1 hj1 hi2 hi3 hj3 hi4 hi5 hi6 hj6
                  obtain ⟨x, hxe⟩ : ∃ x : Sol, x = ⟨comOf m ns, edgesOf (2 + m) e ns, ya, yb, yc, yd⟩ := ⟨_, rfl⟩
                  rw [← hxe] at HD4 HRP
                  clear hxe
                  obtain ⟨A7, c7, B7, d7, rfl, rfl, hra, hrb⟩ := HD4.out.form
                  have hfo := rsformed_any x A7 c7 B7 d7 W hra hrb
                  unfold BoolPost sv at hfo
                  have HFO := Lib.hid hfo
                  obtain ⟨c0, c1, c2, c3, c4, c5⟩ := HD4.out.cells
                  clear hra hrb hfo
                  go_wp2_with fail
                  refine HFO.out.mono ?_
                  rintro e7 w7 ⟨rfl, hC7⟩
                  have hD7 := HD4.out.grow hC7
                  clear c0 c1 c2 c3 c4 c5
                  obtain ⟨z0, z1, z2, z3, z4, z5⟩ := read6 hD7.zero
                  have y0 := frozen_of hD7.zero 0
                  have y1 := frozen_of hD7.zero 1
                  have y2 := frozen_of hD7.zero 2
                  have y3 := frozen_of hD7.zero 3
                  have y4 := frozen_of hD7.zero 4
                  have y5 := frozen_of hD7.zero 5
                  cases hfm : formedS x with
                  | false =>
                    have FZ := Lib.hid (hD7.bad (r := R) (by rw [HRP.out, hfm]; rfl))
                    clear hfm hC7 hD7 HFO
                    go_wp2
                    exact bodyPost_ret (v := .tuple #[sv sol0 none 0 none 0, .int .i64 2]) (by simp [results, Try.results35, go_sem, sv, sol0, z0, z1, z2, z3, z4, z5]) rfl (FZ.out _ (by repeat (first | (with_reducible exact Chg.refl _ _) | (with_reducible refine chg_set_g ?_ _ _))))
                  | true =>
                    obtain ⟨c0, c1, c2, c3, c4, c5⟩ := hD7.cells
                    obtain ⟨A', c', B', d', hva, hvb, _, _, hfin⟩ := hD7.good (r := R) (by rw [HRP.out, hfm]; rfl)
                    cases hva
                    cases hvb
                    have FZ := Lib.hid hfin
                    clear hfm hC7 hD7 HFO hfin
                    go_wp2
                    exact bodyPost_ret (v := .tuple #[sv x A7 c7 B7 d7, .int .i64 0]) (by simp [results, Try.results35, go_sem, sv, z0, z1, z2, z3, z4, z5]) rfl (FZ.out _ (by repeat (first | (with_reducible exact Chg.refl _ _) | (with_reducible refine chg_set_g ?_ _ _))))
    · have hneb : ((nl : Int) != 1 + (m : Int) + 1 + 3 * (e : Int) + 4) = true := by simp; omega
      have FZ := Lib.hid (bad35 HZ2.out HC2.out hgle (r := R) (by rw [← HDR.out]; exact rparse_2 HM.out HE.out H1N.out (.inr (by rw [← HNL.out]; exact hlen))))
      obtain ⟨z0, z1, z2, z3, z4, z5⟩ := read6 HZ2.out
      have y0 := frozen_of HZ2.out 0
      have y1 := frozen_of HZ2.out 1
      have y2 := frozen_of HZ2.out 2
      have y3 := frozen_of HZ2.out 3
      have y4 := frozen_of HZ2.out 4
      have y5 := frozen_of HZ2.out 5
      go_wp2
      exact bodyPost_ret (v := .tuple #[sv sol0 none 0 none 0, .int .i64 2]) (by simp [results, Try.results35, go_sem, sv, sol0, z0, z1, z2, z3, z4, z5]) rfl (FZ.out _ (by repeat (first | (with_reducible exact Chg.refl _ _) | (with_reducible refine chg_set_g ?_ _ _))))
end Go.Proofs.Ytcdbchdlenkdgaa
