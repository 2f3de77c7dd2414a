/- Scores: Add, and the supports; the program's and the document's. -/
import Derived.Test.YtpcebifdlgkccaaBi
import Derived.Test.YtpcebifdlgkccaaOs
set_option linter.unusedVariables false
set_option linter.unusedSimpArgs false
namespace Go.Proofs.Ytpcebifdlgkccaa
open Go.RowKit Go.Ps

def addU (a b : Int) : Int × Int := if a + b < 18446744073709551616 then (a + b, 0) else (0, 3)
theorem info29 : (Try.prog.info? 29).map (fun i => (i.zero, i.size, i.bytes)) = some (some (.int .u64 0), 1, 8) := by kernel_rfl
theorem add13_any (a b : Int) (w : World) (ha : U64 a) (hb : U64 b) : Calls Try.prog 13 #[.int .u64 a, .int .u64 b] w fun e w' => e = .returned (.tuple #[.int .u64 (addU a b).1, .int .i64 (addU a b).2]) ∧ w = w' := by
  unfold addU
  by_cases h : a + b < 18446744073709551616
  · rw [if_pos h]
    obtain ⟨h1, h2⟩ := ha
    obtain ⟨h3, h4⟩ := hb
    have h5 : a ≤ a + b := by omega
    go_enter Try.func13, Try.ntmps13
    go_wp2
    go_ret2
    exact ⟨rfl, rfl⟩
  · rw [if_neg h]
    obtain ⟨m, hm1, hm2, hm3, hm4⟩ := wrap_over ha hb h
    have h5 : m < a := by have := hb.2; omega
    clear h hm2 hm3 ha hb
    go_enter Try.func13, Try.ntmps13
    go_wp2
    go_ret2
    exact ⟨rfl, rfl⟩
theorem add14_any (a b : Int) (w : World) (ha : U64 a) (hb : U64 b) : Calls Try.prog 14 #[.int .u64 a, .int .u64 b] w fun e w' => e = .returned (.tuple #[.int .u64 (addU a b).1, .int .i64 (addU a b).2]) ∧ w = w' := by
  unfold addU
  obtain ⟨h1, h2⟩ := ha
  obtain ⟨h3, h4⟩ := hb
  by_cases h : a + b < 18446744073709551616
  · rw [if_pos h]
    have h5 : ¬ 18446744073709551615 - b < a := by omega
    go_enter Try.func14, Try.ntmps14
    go_wp2
    go_ret2
    exact ⟨rfl, rfl⟩
  · rw [if_neg h]
    have h5 : 18446744073709551615 - b < a := by omega
    clear h
    go_enter Try.func14, Try.ntmps14
    go_wp2
    go_ret2
    exact ⟨rfl, rfl⟩
def suppE (c : Int) : Int → List (Int × Int × Int) → Int × Int
  | n, [] => (n, 0)
  | n, e :: t => if e.2.1 = c then (if n + e.2.2 < 18446744073709551616 then suppE c (n + e.2.2) t else (0, 3)) else suppE c n t
def suppA (acc : List Int) : List Int → List (Int × Int × Int) → List Int × Int
  | [], _ => (acc, 0)
  | c :: t, es => if (suppE c 0 es).2 = 0 then suppA (acc ++ [(suppE c 0 es).1]) t es else ([], 3)
def SuppPost (t : List Int × Int) (w : World) (e : Ending) (w' : World) : Prop := ∃ v, e = .returned (.tuple #[v, .int .i64 t.2]) ∧ New 29 .u64 w w' v t.1
theorem drop3 (l : List (Int × Int × Int)) (k : Nat) (h : k < l.length) : l.drop k = l.getD k d3 :: l.drop (k + 1) := by
  rw [List.drop_eq_getElem_cons h]
  congr 1
  rw [List.getD_eq_getElem?_getD, List.getElem?_eq_getElem h]
  rfl
theorem _root_.Go.Ps.Reads3.chg {w w' : World} {q0 q1 q2 : IntKind} {A : Option Addr} {l : List (Int × Int × Int)} (h : Reads3 w q0 q1 q2 A l) {F : Nat → Prop} (hc : Chg F w w') (hF : ∀ a, A = some a → ¬ F a.block) : Reads3 w' q0 q1 q2 A l := by
  intro hne
  obtain ⟨b, off, hA, hlt, hx⟩ := h hne
  have hf := hF _ hA
  refine ⟨b, off, hA, Nat.lt_of_lt_of_le hlt hc.size, fun i hi => ?_⟩
  obtain ⟨c0, c1, c2⟩ := hx i hi
  exact ⟨chg_cell hc c0 hf, chg_cell hc c1 hf, chg_cell hc c2 hf⟩
theorem _root_.Go.Ps.Reads3.plain {w : World} {q0 q1 q2 : IntKind} {A : Option Addr} {l : List (Int × Int × Int)} (h : Reads3 w q0 q1 q2 A l) (hne : 0 < l.length) : ∃ b o, A = some ⟨b, o, none⟩ ∧ ∀ i, i < l.length →
    w.cell? ⟨b, o + i * 3, none⟩ = some (.int q0 (l.getD i d3).1) ∧ w.cell? ⟨b, o + i * 3 + 1, none⟩ = some (.int q1 (l.getD i d3).2.1) ∧ w.cell? ⟨b, o + i * 3 + 2, none⟩ = some (.int q2 (l.getD i d3).2.2) := by
  obtain ⟨b, o, h1, _, h2⟩ := h (by rintro rfl; simp at hne)
  exact ⟨b, o, h1, h2⟩
set_option maxRecDepth 20000 in
set_option maxHeartbeats 4000000 in
theorem supports6_any (w : World) (A B : Option Addr) (c d : Nat) (com : List Int) (es : List (Int × Int × Int)) (hA : ReadsI w .i64 A com) (hB : Reads3 w .i64 .i64 .u64 B es) (hu : ∀ e ∈ es, U64 e.2.2) (hl : com.length ≤ 1000) (hl2 : es.length ≤ 1000) : Calls Try.prog 6 #[.slice A com.length c, .slice B es.length d] w (SuppPost (suppA [] com es) w) := by
  have HA := Lib.hid hA
  have HB := Lib.hid hB
  have HU := Lib.hid hu
  obtain ⟨T, hT⟩ : ∃ T, T = suppA [] com es := ⟨_, rfl⟩
  rw [← hT]
  have HT := Lib.hid (show T = suppA [] (com.drop 0) es from hT)
  obtain ⟨nc, hnc⟩ : ∃ n, n = com.length := ⟨_, rfl⟩
  obtain ⟨ne, hne⟩ : ∃ n, n = es.length := ⟨_, rfl⟩
  rw [← hnc] at hl ⊢
  rw [← hne] at hl2 ⊢
  have HNC := Lib.hid hnc
  have HNE := Lib.hid hne
  clear hA hB hu hT hnc hne
  go_enter Try.func6, Try.ntmps6
  go_wp2
  go_loopw [6, 15] (fun v i wr => ∃ (k m : Nat) (acc : List Int) (A3 : Option Addr) (c3 : Nat), k ≤ nc ∧ i = .int .i64 k ∧ v = .slice A3 m c3 ∧ Hid (m = acc.length ∧ acc.length = k) ∧ Hid (T = suppA acc (com.drop k) es) ∧ Hid (New 29 .u64 w wr (.slice A3 m c3) acc)) (fun _ i _ => nc - (intOf i).toNat)
  case atStart => exact ⟨0, 0, [], none, 0, by omega, rfl, rfl, Lib.hid ⟨rfl, rfl⟩, HT, Lib.hid (New.nil _ _ _)⟩
  case round =>
    obtain ⟨k, m, acc, A3, c3, hk, rfl, rfl, hm, hTk, hN⟩ := hrel
    obtain ⟨wo, rfl⟩ : ∃ wo : World, wo = wr := ⟨_, rfl⟩
    by_cases hk2 : k < nc
    · obtain ⟨ga, oa, rfl, hxa⟩ := HA.out.plain (by rintro rfl; have := HNC.out; simp at this; omega)
      obtain ⟨x, hx⟩ : ∃ x, x = com.getD k 0 := ⟨_, rfl⟩
      have pa := hxa k (by rw [← HNC.out]; exact hk2)
      rw [← hx] at pa
      have pa0 := chg_cell hN.out.2.1 pa id
      have hd := drop_getD com k (by rw [← HNC.out]; exact hk2)
      have hTk2 := hTk.out
      rw [hd, ← hx, suppA] at hTk2
      have HTK := Lib.hid hTk2
      obtain ⟨S, hS⟩ : ∃ S, S = suppE x 0 es := ⟨_, rfl⟩
      have HS := Lib.hid (show S = suppE x 0 (es.drop 0) from hS)
      have HS0 := Lib.hid hS
      have hkI : (k : Int) < (nc : Int) := by omega
      have HPA := Lib.hid pa
      clear hxa hx hd hTk hTk2 hS pa
      go_wp2
      go_loopw [9, 21] (fun n i wr => ∃ (j : Nat) (n' : Int), j ≤ ne ∧ i = .int .i64 j ∧ n = .int .u64 n' ∧ 0 ≤ n' ∧ n' < 18446744073709551616 ∧ Hid (S = suppE x n' (es.drop j)) ∧ Hid (Chg (fun _ => False) wo wr)) (fun _ i _ => ne - (intOf i).toNat)
      case atStart => exact ⟨0, 0, by omega, rfl, rfl, by omega, by omega, HS, Lib.hid (Chg.refl _ _)⟩
      case round =>
        obtain ⟨j, n', hj, rfl, rfl, hn0, hn1, hS, hC⟩ := hrel
        by_cases hj2 : j < ne
        · obtain ⟨gb, ob, rfl, hxb⟩ := (HB.out.chg hN.out.2.1 (fun _ _ => id)).plain (by have := HNE.out; omega)
          obtain ⟨e1, e2, e3⟩ := hxb j (by rw [← HNE.out]; exact hj2)
          obtain ⟨⟨v, cc, u⟩, he⟩ : ∃ e, e = es.getD j d3 := ⟨_, rfl⟩
          have hmem : (v, cc, u) ∈ es := by rw [he, List.getD_eq_getElem?_getD, List.getElem?_eq_getElem (by rw [← HNE.out]; exact hj2)]; exact List.getElem_mem _
          obtain ⟨hu0, hu1⟩ := HU.out _ hmem
          have hdj := drop3 es j (by rw [← HNE.out]; exact hj2)
          have hS2 := hS.out
          rw [hdj, ← he, suppE] at hS2
          rw [← he] at e1 e2 e3
          simp only at e1 e2 e3 hS2 hu0 hu1
          have q1 := chg_cell hC.out e1 id
          have q2 := chg_cell hC.out e2 id
          have q3 := chg_cell hC.out e3 id
          have hbl := World.block_lt_of_cell? wr _ q1
          simp only at hbl
          have hjI : (j : Int) < (ne : Int) := by omega
          have pk := chg_cell (hN.out.2.1.trans hC.out (fun _ _ => id)) HPA.out id
          have pal := World.block_lt_of_cell? wr _ pk
          simp only at pal
          by_cases hcc : cc = x
          · subst hcc
            rw [if_pos rfl] at hS2
            have hneb : (cc != cc) = false := by simp
            by_cases hfit : n' + u < 18446744073709551616
            · rw [if_pos hfit] at hS2
              have HS2 := Lib.hid hS2
              have hadd := fun W => add13_any n' u W ⟨hn0, hn1⟩ ⟨hu0, hu1⟩
              unfold addU at hadd
              rw [if_pos hfit] at hadd
              clear hS hS2 hdj he hmem hxb e1 e2 e3
              go_wp2_with (go_at_call 13; refine (hadd _).mono ?_; rintro e w' ⟨rfl, rfl⟩)
              go_roundw
              case rel => exact ⟨j + 1, n' + u, by omega, by go_num, rfl, by omega, hfit, HS2, Lib.hid (hC.out.alloc _)⟩
              case measure => simp [intOf]; omega
            · rw [if_neg hfit] at hS2
              have hadd := fun W => add13_any n' u W ⟨hn0, hn1⟩ ⟨hu0, hu1⟩
              unfold addU at hadd
              rw [if_neg hfit] at hadd
              have hTf : T = ([], 3) := by have := HTK.out; rw [← HS0.out, hS2] at this; exact this
              have fin : ∀ W, Chg (fun _ => False) wr W → SuppPost T w (.returned (.tuple #[.slice none 0 0, .int .i64 3])) W := fun W hW => by
                rw [hTf]
                exact ⟨_, rfl, (New.nil _ _ _).chg (chg_trans (chg_trans hN.out.2.1 hC.out) hW)⟩
              have FIN := Lib.hid fin
              clear hS hS2 hdj he hmem hxb e1 e2 e3 hTf fin
              go_wp2_with (go_at_call 13; refine (hadd _).mono ?_; rintro e w' ⟨rfl, rfl⟩)
              go_ret2
              exact FIN.out _ ((Chg.refl _ _).alloc _)
          · rw [if_neg hcc] at hS2
            have HS2 := Lib.hid hS2
            have hneb : (cc != x) = true := by simpa using hcc
            clear hS hS2 hdj he hmem hxb e1 e2 e3
            go_wp2
            go_roundw
            case rel => exact ⟨j + 1, n', by omega, by go_num, rfl, hn0, hn1, HS2, Lib.hid (hC.out.alloc _)⟩
            case measure => simp [intOf]; omega
        · obtain rfl : ne = j := by omega
          have hSe : S = (n', 0) := by have h := hS.out; rw [HNE.out, List.drop_length] at h; exact h
          have hT3 : T = suppA (acc ++ [n']) (com.drop (k + 1)) es := by have h := HTK.out; rw [← HS0.out, hSe] at h; exact h
          obtain ⟨hmk, hak⟩ := hm.out
          obtain ⟨A4, c4, w4, hap, hN4⟩ := New.push (hN.out.chg hC.out) Try.underlying24 info29 hmk.symm n' (by omega) (by omega)
          have HREL := Lib.hid (show Hid (m + 1 = (acc ++ [n']).length ∧ (acc ++ [n']).length = k + 1) ∧ Hid (T = suppA (acc ++ [n']) (com.drop (k + 1)) es) ∧ Hid (New 29 .u64 w w4 (.slice A4 (m + 1) c4) (acc ++ [n'])) from
            ⟨Lib.hid ⟨by simp; omega, by simp; omega⟩, Lib.hid hT3, Lib.hid hN4⟩)
          clear hS hSe hT3 hmk hak hN4 hm hN hC
          go_wp2_with (at_builtin; refine wpList_append_run rfl (.tmp 40) (.tmp 42) 24 rfl _ _ _ _ rfl rfl hap ?_)
          go_roundw
          case rel => exact ⟨k + 1, m + 1, acc ++ [n'], A4, c4, by omega, by go_num, rfl, HREL.out⟩
          case measure => simp [intOf]; omega
    · obtain rfl : nc = k := by omega
      have hTf : T = (acc, 0) := by have h := hTk.out; rw [HNC.out, List.drop_length] at h; exact h
      have HF := Lib.hid (show SuppPost T w (.returned (.tuple #[.slice A3 m c3, .int .i64 0])) wo from ⟨_, by rw [hTf], by rw [hTf]; exact hN.out⟩)
      clear hTk hTf hN hm
      go_wp2
      go_ret2
      exact HF.out
set_option maxRecDepth 20000 in
set_option maxHeartbeats 4000000 in
theorem supports7_any (w : World) (A B : Option Addr) (c d : Nat) (com : List Int) (es : List (Int × Int × Int)) (hA : ReadsI w .i64 A com) (hB : Reads3 w .i64 .i64 .u64 B es) (hu : ∀ e ∈ es, U64 e.2.2) (hl : com.length ≤ 1000) (hl2 : es.length ≤ 1000) : Calls Try.prog 7 #[.slice A com.length c, .slice B es.length d] w (SuppPost (suppA [] com es) w) := by
  have HA := Lib.hid hA
  have HB := Lib.hid hB
  have HU := Lib.hid hu
  obtain ⟨T, hT⟩ : ∃ T, T = suppA [] com es := ⟨_, rfl⟩
  rw [← hT]
  have HT := Lib.hid (show T = suppA [] (com.drop 0) es from hT)
  obtain ⟨nc, hnc⟩ : ∃ n, n = com.length := ⟨_, rfl⟩
  obtain ⟨ne, hne⟩ : ∃ n, n = es.length := ⟨_, rfl⟩
  rw [← hnc] at hl ⊢
  rw [← hne] at hl2 ⊢
  have HNC := Lib.hid hnc
  have HNE := Lib.hid hne
  clear hA hB hu hT hnc hne
  go_enter Try.func7, Try.ntmps7
  go_wp2
  go_loopw [6, 14] (fun v i wr => ∃ (k m : Nat) (acc : List Int) (A3 : Option Addr) (c3 : Nat), k ≤ nc ∧ i = .int .i64 k ∧ v = .slice A3 m c3 ∧ Hid (m = acc.length ∧ acc.length = k) ∧ Hid (T = suppA acc (com.drop k) es) ∧ Hid (New 29 .u64 w wr (.slice A3 m c3) acc)) (fun _ i _ => nc - (intOf i).toNat)
  case atStart => exact ⟨0, 0, [], none, 0, by omega, rfl, rfl, Lib.hid ⟨rfl, rfl⟩, HT, Lib.hid (New.nil _ _ _)⟩
  case round =>
    obtain ⟨k, m, acc, A3, c3, hk, rfl, rfl, hm, hTk, hN⟩ := hrel
    obtain ⟨wo, rfl⟩ : ∃ wo : World, wo = wr := ⟨_, rfl⟩
    by_cases hk2 : k < nc
    · obtain ⟨ga, oa, rfl, hxa⟩ := HA.out.plain (by rintro rfl; have := HNC.out; simp at this; omega)
      obtain ⟨x, hx⟩ : ∃ x, x = com.getD k 0 := ⟨_, rfl⟩
      have pa := hxa k (by rw [← HNC.out]; exact hk2)
      rw [← hx] at pa
      have pa0 := chg_cell hN.out.2.1 pa id
      have hd := drop_getD com k (by rw [← HNC.out]; exact hk2)
      have hTk2 := hTk.out
      rw [hd, ← hx, suppA] at hTk2
      have HTK := Lib.hid hTk2
      obtain ⟨S, hS⟩ : ∃ S, S = suppE x 0 es := ⟨_, rfl⟩
      have HS := Lib.hid (show S = suppE x 0 (es.drop 0) from hS)
      have HS0 := Lib.hid hS
      have hkI : (k : Int) < (nc : Int) := by omega
      have HPA := Lib.hid pa
      clear hxa hx hd hTk hTk2 hS pa
      go_wp2
      go_loopw [8, 19] (fun n i wr => ∃ (j : Nat) (n' : Int), j ≤ ne ∧ i = .int .i64 j ∧ n = .int .u64 n' ∧ 0 ≤ n' ∧ n' < 18446744073709551616 ∧ Hid (S = suppE x n' (es.drop j)) ∧ Hid (Chg (fun _ => False) wo wr)) (fun _ i _ => ne - (intOf i).toNat)
      case atStart => exact ⟨0, 0, by omega, rfl, rfl, by omega, by omega, HS, Lib.hid (Chg.refl _ _)⟩
      case round =>
        obtain ⟨j, n', hj, rfl, rfl, hn0, hn1, hS, hC⟩ := hrel
        by_cases hj2 : j < ne
        · obtain ⟨gb, ob, rfl, hxb⟩ := (HB.out.chg hN.out.2.1 (fun _ _ => id)).plain (by have := HNE.out; omega)
          obtain ⟨e1, e2, e3⟩ := hxb j (by rw [← HNE.out]; exact hj2)
          obtain ⟨⟨v, cc, u⟩, he⟩ : ∃ e, e = es.getD j d3 := ⟨_, rfl⟩
          have hmem : (v, cc, u) ∈ es := by rw [he, List.getD_eq_getElem?_getD, List.getElem?_eq_getElem (by rw [← HNE.out]; exact hj2)]; exact List.getElem_mem _
          obtain ⟨hu0, hu1⟩ := HU.out _ hmem
          have hdj := drop3 es j (by rw [← HNE.out]; exact hj2)
          have hS2 := hS.out
          rw [hdj, ← he, suppE] at hS2
          rw [← he] at e1 e2 e3
          simp only at e1 e2 e3 hS2 hu0 hu1
          have q1 := chg_cell hC.out e1 id
          have q2 := chg_cell hC.out e2 id
          have q3 := chg_cell hC.out e3 id
          have hbl := World.block_lt_of_cell? wr _ q1
          simp only at hbl
          have hjI : (j : Int) < (ne : Int) := by omega
          have pk := chg_cell (hN.out.2.1.trans hC.out (fun _ _ => id)) HPA.out id
          have pal := World.block_lt_of_cell? wr _ pk
          simp only at pal
          by_cases hcc : cc = x
          · subst hcc
            rw [if_pos rfl] at hS2
            have hneb : (cc != cc) = false := by simp
            by_cases hfit : n' + u < 18446744073709551616
            · rw [if_pos hfit] at hS2
              have HS2 := Lib.hid hS2
              have hadd := fun W => add14_any n' u W ⟨hn0, hn1⟩ ⟨hu0, hu1⟩
              unfold addU at hadd
              rw [if_pos hfit] at hadd
              clear hS hS2 hdj he hmem hxb e1 e2 e3
              go_wp2_with fail
              go_quiet (fail)
              go_wp2_with (go_at_call 14; refine (hadd _).mono ?_; rintro e w' ⟨rfl, rfl⟩)
              go_roundw
              case rel => exact ⟨j + 1, n' + u, by omega, by go_num, rfl, by omega, hfit, HS2, Lib.hid (hC.out.drewN _)⟩
              case measure => simp [intOf]; omega
            · rw [if_neg hfit] at hS2
              have hadd := fun W => add14_any n' u W ⟨hn0, hn1⟩ ⟨hu0, hu1⟩
              unfold addU at hadd
              rw [if_neg hfit] at hadd
              have hTf : T = ([], 3) := by have := HTK.out; rw [← HS0.out, hS2] at this; exact this
              have fin : ∀ W, Chg (fun _ => False) wr W → SuppPost T w (.returned (.tuple #[.slice none 0 0, .int .i64 3])) W := fun W hW => by
                rw [hTf]
                exact ⟨_, rfl, (New.nil _ _ _).chg (chg_trans (chg_trans hN.out.2.1 hC.out) hW)⟩
              have FIN := Lib.hid fin
              clear hS hS2 hdj he hmem hxb e1 e2 e3 hTf fin
              go_wp2_with fail
              go_quiet (fail)
              go_wp2_with (go_at_call 14; refine (hadd _).mono ?_; rintro e w' ⟨rfl, rfl⟩)
              go_ret2
              exact FIN.out _ ((Chg.refl _ _).drewN _)
          · rw [if_neg hcc] at hS2
            have HS2 := Lib.hid hS2
            have hneb : (cc != x) = true := by simpa using hcc
            clear hS hS2 hdj he hmem hxb e1 e2 e3
            go_wp2_with fail
            go_quiet (fail)
            go_wp2_with fail
            go_roundw
            case rel => exact ⟨j + 1, n', by omega, by go_num, rfl, hn0, hn1, HS2, Lib.hid (hC.out.drewN _)⟩
            case measure => simp [intOf]; omega
        · obtain rfl : ne = j := by omega
          have hSe : S = (n', 0) := by have h := hS.out; rw [HNE.out, List.drop_length] at h; exact h
          have hT3 : T = suppA (acc ++ [n']) (com.drop (k + 1)) es := by have h := HTK.out; rw [← HS0.out, hSe] at h; exact h
          obtain ⟨hmk, hak⟩ := hm.out
          obtain ⟨A4, c4, w4, hap, hN4⟩ := New.push (hN.out.chg hC.out) Try.underlying24 info29 hmk.symm n' (by omega) (by omega)
          have HREL := Lib.hid (show Hid (m + 1 = (acc ++ [n']).length ∧ (acc ++ [n']).length = k + 1) ∧ Hid (T = suppA (acc ++ [n']) (com.drop (k + 1)) es) ∧ Hid (New 29 .u64 w w4 (.slice A4 (m + 1) c4) (acc ++ [n'])) from
            ⟨Lib.hid ⟨by simp; omega, by simp; omega⟩, Lib.hid hT3, Lib.hid hN4⟩)
          clear hS hSe hT3 hmk hak hN4 hm hN hC
          go_wp2_with (at_builtin; refine wpList_append_run rfl (.tmp 47) (.tmp 49) 24 rfl _ _ _ _ rfl rfl hap ?_)
          go_roundw
          case rel => exact ⟨k + 1, m + 1, acc ++ [n'], A4, c4, by omega, by go_num, rfl, HREL.out⟩
          case measure => simp [intOf]; omega
    · obtain rfl : nc = k := by omega
      have hTf : T = (acc, 0) := by have h := hTk.out; rw [HNC.out, List.drop_length] at h; exact h
      have HF := Lib.hid (show SuppPost T w (.returned (.tuple #[.slice A3 m c3, .int .i64 0])) wo from ⟨_, by rw [hTf], by rw [hTf]; exact hN.out⟩)
      clear hTk hTf hN hm
      go_wp2
      go_ret2
      exact HF.out
end Go.Proofs.Ytpcebifdlgkccaa
