/- Sums; New. -/
import Derived.Test.YtpndkelbchjkiaaLq
import Derived.Deep.Cut
import Derived.Deep.DeepCutAuto
import Derived.Deep.RegionLaw
import Derived.Deep.LoopGhost
set_option linter.unusedVariables false
set_option linter.unusedSimpArgs false
namespace Go.Proofs.Ytpndkelbchjkiaa
open Go.RowKit Go.Ps
theorem chg_heap0 {w w' : World} (h : Chg (fun _ => False) w w') {b : Nat} {o : Obj} (hb : w.heap[b]? = some o) : w'.heap[b]? = some o := (h.block b (heap_lt hb) id).trans hb
theorem read4 {w : World} {g : Nat} {c0 c1 c2 c3 : Value} {t : TypeId} (h : w.heap[g]? = some (.cells #[c0, c1, c2, c3] t (0, 0))) :
    w.cell? ⟨g, 0, none⟩ = some c0 ∧ w.cell? ⟨g, 1, none⟩ = some c1 ∧ w.cell? ⟨g, 2, none⟩ = some c2 ∧ w.cell? ⟨g, 3, none⟩ = some c3 := ⟨cell_of h 0 rfl, cell_of h 1 rfl, cell_of h 2 rfl, cell_of h 3 rfl⟩
def U64 (n : Int) : Prop := 0 ≤ n ∧ n < 18446744073709551616
def AllU (l : List Int) : Prop := ∀ x ∈ l, U64 x
theorem AllU.getD {l : List Int} (h : AllU l) (k : Nat) : U64 (l.getD k 0) := by
  rw [List.getD_eq_getElem?_getD]
  cases hg : l[k]? with
  | none => exact ⟨by simp, by simp⟩
  | some y => exact h y (List.mem_of_getElem? hg)
theorem drop_getD (l : List Int) (k : Nat) (h : k < l.length) : l.drop k = l.getD k 0 :: l.drop (k + 1) := by
  rw [List.drop_eq_getElem_cons h]
  congr 1
  rw [List.getD_eq_getElem?_getD, List.getElem?_eq_getElem h]
  rfl
def sumU : Int → List Int → Int × Int
  | n, [] => (n, 0)
  | n, x :: l => if n + x < 18446744073709551616 then sumU (n + x) l else (0, 3)
def SumPost (t : Int × Int) (w : World) (e : Ending) (w' : World) : Prop := e = .returned (.tuple #[.int .u64 t.1, .int .i64 t.2]) ∧ w = w'
theorem wrap_over {n x : Int} (hn : U64 n) (hx : U64 x) (h : ¬ n + x < 18446744073709551616) : ∃ m, IntKind.u64.wrap (n + x) = m ∧ m = n + x - 18446744073709551616 ∧ m < x ∧ 0 ≤ m := by
  obtain ⟨h1, h2⟩ := hn
  obtain ⟨h3, h4⟩ := hx
  refine ⟨n + x - 18446744073709551616, ?_, rfl, by omega, by omega⟩
  unfold IntKind.wrap
  simp [IntKind.signed, IntKind.bits]
  omega
set_option maxHeartbeats 1000000 in
theorem sum_any (l : List Int) (w : World) (A : Option Addr) (c : Nat) (hr : ReadsI w .u64 A l) (hl : l.length ≤ 200000000000000) (hu : AllU l) : Calls Try.prog 30 #[.slice A l.length c] w (SumPost (sumU 0 l) w) := by
  have HR := Lib.hid hr
  have HU := Lib.hid hu
  obtain ⟨T, hT⟩ : ∃ T, T = sumU 0 l := ⟨_, rfl⟩
  rw [← hT]
  have HT := Lib.hid hT
  clear hr hu hT
  go_enter Try.func30, Try.ntmps30
  go_wp2
  go_loop [4, 9] (fun n i => ∃ (k : Nat) (N : Int), k ≤ l.length ∧ i = .int .i64 k ∧ n = .int .u64 N ∧ 0 ≤ N ∧ N < 18446744073709551616 ∧ T = sumU N (l.drop k)) (fun _ i => l.length - (intOf i).toNat)
  case atStart => exact ⟨0, 0, by omega, rfl, rfl, by omega, by omega, HT.out⟩
  case round =>
    obtain ⟨k, N, hk, rfl, rfl, hN0, hN1, hT⟩ := hrel
    by_cases hk2 : k < l.length
    · obtain ⟨g, o, rfl, hx⟩ := HR.out.plain (by rintro rfl; simp at hk2)
      have hcell := hx k hk2
      have hd := drop_getD l k hk2
      have hux := HU.out.getD k
      obtain ⟨x, hxe⟩ : ∃ x, x = l.getD k 0 := ⟨_, rfl⟩
      rw [hd, ← hxe, sumU] at hT
      rw [← hxe] at hcell hux
      by_cases h0 : N + x < 18446744073709551616
      · rw [if_pos h0] at hT
        have HT := Lib.hid hT
        obtain ⟨hx1, hx2⟩ := hux
        clear hT hd hxe hx
        go_wp2
        go_round
        case rel => exact ⟨k + 1, N + x, by omega, by go_num, by go_num, by omega, by omega, HT.out⟩
        case measure => simp [intOf]; omega
      · rw [if_neg h0] at hT
        subst hT
        obtain ⟨m, hm1, hm2, hm3, hm4⟩ := wrap_over ⟨hN0, hN1⟩ hux h0
        have HM := Lib.hid hm2
        obtain ⟨hx1, hx2⟩ := hux
        clear hd hxe hx HT hm2 h0
        go_wp2
        go_ret2
        exact ⟨rfl, rfl⟩
    · have ej : k = l.length := by omega
      subst ej
      rw [List.drop_of_length_le (Nat.le_refl _)] at hT
      subst hT
      clear HT
      go_wp2
      go_ret2
      exact ⟨rfl, rfl⟩
theorem wrap64u (n : Int) : IntKind.u64.wrap n = n % 18446744073709551616 := by simp [IntKind.wrap, IntKind.signed, IntKind.bits]
theorem take_snoc0 (l : List Int) (k : Nat) (h : k < l.length) : l.take k ++ [l.getD k 0] = l.take (k + 1) := by
  rw [List.getD_eq_getElem?_getD, List.getElem?_eq_getElem h]
  exact List.take_append_getElem h
def nuL (l : List Int) : List Row := l.map fun b => nu ⟨b, 0, 0, []⟩
def NewPost (l : List Int) (w : World) (e : Ending) (w' : World) : Prop :=
  if 32 < l.length then NoPost (.tuple #[.pointer none, .int .i64 1]) w e w'
  else if (sumU 0 l).2 = 0 then ∃ g V, e = .returned (.tuple #[.pointer (some ⟨g, 0, none⟩), .int .i64 0]) ∧ LAt w' g V (nuL l) 0 0 (sumU 0 l).1 ∧ Chg (fun _ => False) w w' ∧ ∀ k, Mine g V (nuL l) k → w.heap.size ≤ k
  else NoPost (.tuple #[.pointer none, .int .i64 (sumU 0 l).2]) w e w'
theorem sumU_code (l : List Int) : ∀ n, (sumU n l).2 = 0 ∨ (sumU n l).2 = 3 := by
  induction l with
  | nil => intro n; exact .inl rfl
  | cons x l ih => intro n; unfold sumU; split; exact ih _; exact .inr rfl
set_option maxHeartbeats 1000000 in
theorem new_any (l : List Int) (w : World) (A : Option Addr) (c : Nat) (hr : ReadsI w .u64 A l) (hl : l.length ≤ 200000000000000) (hu : AllU l) : Calls Try.prog 9 #[.slice A l.length c] w (NewPost l w) := by
  have hsum := sum_any l w A c hr hl hu
  have hcode := sumU_code l 0
  unfold NewPost
  obtain ⟨⟨S, k⟩, hS⟩ : ∃ s, s = sumU 0 l := ⟨_, rfl⟩
  rw [← hS] at hsum hcode ⊢
  unfold SumPost at hsum
  obtain ⟨n, hn⟩ : ∃ n, n = l.length := ⟨_, rfl⟩
  rw [← hn] at hsum hl ⊢
  simp only at *
  by_cases h32 : 32 < n
  · have d : decide ((32 : Int) < (n : Int)) = true := by simp; omega
    simp only [if_pos h32]
    clear hsum hcode hn hS hr hu
    go_enter Try.func9, Try.ntmps9
    go_wp2
    exact bodyPost_ret (v := .tuple #[.pointer none, .int .i64 1]) (by simp [results, Try.results9, go_sem]) rfl ⟨rfl, Chg.refl _ _⟩
  · have d : decide ((32 : Int) < (n : Int)) = false := by simp; omega
    simp only [if_neg h32]
    rcases hcode with rfl | rfl
    · simp only [if_true]
      have HN := Lib.hid hn
      have HR := Lib.hid hr
      have HS := Lib.hid hsum
      clear hn hr hsum hS
      go_enter Try.func9, Try.ntmps9
      go_wp2_with fail
      refine HS.out.mono ?_
      rintro e w1 ⟨rfl, rfl⟩
      obtain ⟨w1, hw1⟩ : ∃ W, W = w.alloc (.cells #[.slice none 0 0, .int .u64 0, .int .u64 0, .int .u64 S] 64) := ⟨_, rfl⟩
      obtain ⟨g, hg⟩ : ∃ g, g = w.heap.size := ⟨_, rfl⟩
      have h0 : LAt w1 g (.slice none 0 0) (nuL (l.take 0)) 0 0 S := by
        refine ⟨by rw [hw1, hg]; exact heap_alloc_at _ _, by simp only [nuL, List.take_zero, List.map_nil]; exact OwnF.nil _ _ _ _, fun i hi => by simp [nuL] at hi, (by intro e; cases e), fun i k hi => by simp [nuL] at hi, fun i j k hi => by simp [nuL] at hi⟩
      have h1 : Chg (fun _ => False) w w1 := by rw [hw1]; exact (Chg.refl _ w).alloc _
      have h2 : ∀ k', Mine g (.slice none 0 0) (nuL (l.take 0)) k' → w.heap.size ≤ k' := by
        rintro k' (h | h | ⟨i, hi, _⟩)
        · omega
        · cases h
        · simp [nuL] at hi
      have H0 := Lib.hid h0
      have H1 := Lib.hid h1
      have H2 := Lib.hid h2
      have HW1 := Lib.hid hw1
      have HG := Lib.hid hg
      clear h0 h1 h2 hw1 hg
      go_upto_region 7 with (fail)
      rw [← HW1.out, ← HG.out]
      clear HW1 HG
      go_wp2
      go_loopw [25] (fun i wr => ∃ (k : Nat) (V : Value), k ≤ n ∧ i = .int .i64 k ∧ Hid (LAt wr g V (nuL (l.take k)) 0 0 S) ∧ Hid (Chg (fun _ => False) w wr) ∧ Hid (∀ k', Mine g V (nuL (l.take k)) k' → w.heap.size ≤ k')) (fun i _ => n - (intOf i).toNat)
      case atStart => exact ⟨0, _, by omega, rfl, H0, H1, H2⟩
      case round =>
        obtain ⟨k, V, hk, rfl, hL, hC, hF⟩ := hrel
        by_cases hk2 : k < n
        · have hkl : k < l.length := by have := HN.out; omega
          obtain ⟨gl, o, rfl, hx⟩ := (HR.out.chg hC.out (fun _ _ => id)).plain (by rintro rfl; simp at hkl)
          have hcell := hx k hkl
          have hlen : (nuL (l.take k)).length = k := by simp [nuL]; omega
          have hsn : nuL (l.take k) ++ [nu ⟨l.getD k 0, 0, 0, []⟩] = nuL (l.take (k + 1)) := by
            unfold nuL
            rw [← take_snoc0 l k hkl]
            simp
          obtain ⟨x, hxe⟩ : ∃ x, x = l.getD k 0 := ⟨_, rfl⟩
          obtain ⟨A', c', w2, hrun, hc2, hL2, hC2, hM2⟩ := hL.out.push ⟨l.getD k 0, 0, 0, []⟩ rfl (by omega)
          rw [hsn] at hL2 hM2
          rw [hlen] at hrun hL2 hC2 hM2
          simp only at hrun
          rw [← hxe] at hcell hrun
          obtain ⟨z0, _, _, _⟩ := read4 hL.out.cell
          obtain ⟨z1, _, _, _⟩ := read4 hc2
          have z2 := frozen_of hc2 0
          have HL2 := Lib.hid hL2
          have HC2 := Lib.hid (hC.out.trans hC2 (fun j hj h => by have := hF.out j h; omega))
          have HF2 := Lib.hid (fun k' hk' => (hM2 k' hk').elim (fun h => hF.out k' h) (fun h => Nat.le_trans hC.out.size h))
          clear hx hlen hsn hxe hL2 hC2 hM2 hL hC hF hc2 hkl
          go_wp2_with (at_builtin; refine wpList_append_run rfl _ _ 62 rfl _ _ _ _ rfl rfl hrun ?_)
          go_roundw
          case rel => exact ⟨k + 1, _, by omega, by go_num, HL2, HC2, HF2⟩
          case measure => simp [intOf]; omega
        · obtain rfl : n = k := by omega
          have he : l.take n = l := List.take_of_length_le (by rw [HN.out]; exact Nat.le_refl _)
          rw [he] at hL hF
          go_wp2
          exact bodyPost_ret (v := .tuple #[.pointer (some ⟨g, 0, none⟩), .int .i64 0]) (by simp [results, Try.results9, go_sem]) rfl ⟨g, V, rfl, hL.out, hC.out, hF.out⟩
    · simp only [show ¬ (3 : Int) = 0 by omega, if_false]
      have HS := Lib.hid hsum
      clear hn hr hsum hS hu
      go_enter Try.func9, Try.ntmps9
      go_wp2_with fail
      refine HS.out.mono ?_
      rintro e w1 ⟨rfl, rfl⟩
      go_wp2
      exact bodyPost_ret (v := .tuple #[.pointer none, .int .i64 3]) (by simp [results, Try.results9, go_sem]) rfl ⟨rfl, Chg.refl _ _⟩
end Go.Proofs.Ytpndkelbchjkiaa
