/- Scores: sums, squares, and the score of supports. -/
import Derived.Test.YtpcebifdlgkccaaBe
import Derived.Lib.VarintBits
set_option linter.unusedVariables false
set_option linter.unusedSimpArgs false
namespace Go.Proofs.Ytpcebifdlgkccaa
open Go.RowKit Go.Ps

def AllU (l : List Int) : Prop := ∀ x ∈ l, U64 x
theorem AllU.getD {l : List Int} (h : AllU l) (k : Nat) : U64 (l.getD k 0) := by
  rw [List.getD_eq_getElem?_getD]
  cases hg : l[k]? with
  | none => exact ⟨by simp, by simp⟩
  | some y => exact h y (List.mem_of_getElem? hg)
theorem drop_getD (l : List Int) (k : Nat) (h : k < l.length) : l.drop k = l.getD k 0 :: l.drop (k + 1) := by
  rw [List.drop_eq_getElem_cons h]
  congr 1
  rw [List.getD_eq_getElem?_getD, List.getElem?_eq_getElem h]
  rfl
def sumU : Int → List Int → Int × Int
  | n, [] => (n, 0)
  | n, x :: l => if n + x < 18446744073709551616 then sumU (n + x) l else (0, 3)
def SumPost (t : Int × Int) (w : World) (e : Ending) (w' : World) : Prop := e = .returned (.tuple #[.int .u64 t.1, .int .i64 t.2]) ∧ w = w'
theorem wrap_over {n x : Int} (hn : U64 n) (hx : U64 x) (h : ¬ n + x < 18446744073709551616) : ∃ m, IntKind.u64.wrap (n + x) = m ∧ m = n + x - 18446744073709551616 ∧ m < x ∧ 0 ≤ m := by
  obtain ⟨h1, h2⟩ := hn
  obtain ⟨h3, h4⟩ := hx
  refine ⟨n + x - 18446744073709551616, ?_, rfl, by omega, by omega⟩
  unfold IntKind.wrap
  simp [IntKind.signed, IntKind.bits]
  omega
set_option maxHeartbeats 1000000 in
theorem sum_any (l : List Int) (w : World) (A : Option Addr) (c : Nat) (hr : ReadsI w .u64 A l) (hl : l.length ≤ 200000000000000) (hu : AllU l) : Calls Try.prog 15 #[.slice A l.length c] w (SumPost (sumU 0 l) w) := by
  have HR := Lib.hid hr
  have HU := Lib.hid hu
  obtain ⟨T, hT⟩ : ∃ T, T = sumU 0 l := ⟨_, rfl⟩
  rw [← hT]
  have HT := Lib.hid hT
  clear hr hu hT
  go_enter Try.func15, Try.ntmps15
  go_wp2
  go_loop [4, 9] (fun n i => ∃ (k : Nat) (N : Int), k ≤ l.length ∧ i = .int .i64 k ∧ n = .int .u64 N ∧ 0 ≤ N ∧ N < 18446744073709551616 ∧ T = sumU N (l.drop k)) (fun _ i => l.length - (intOf i).toNat)
  case atStart => exact ⟨0, 0, by omega, rfl, rfl, by omega, by omega, HT.out⟩
  case round =>
    obtain ⟨k, N, hk, rfl, rfl, hN0, hN1, hT⟩ := hrel
    by_cases hk2 : k < l.length
    · obtain ⟨g, o, rfl, hx⟩ := HR.out.plain (by rintro rfl; simp at hk2)
      have hcell := hx k hk2
      have hd := drop_getD l k hk2
      have hux := HU.out.getD k
      obtain ⟨x, hxe⟩ : ∃ x, x = l.getD k 0 := ⟨_, rfl⟩
      rw [hd, ← hxe, sumU] at hT
      rw [← hxe] at hcell hux
      by_cases h0 : N + x < 18446744073709551616
      · rw [if_pos h0] at hT
        have HT := Lib.hid hT
        obtain ⟨hx1, hx2⟩ := hux
        clear hT hd hxe hx
        go_wp2
        go_round
        case rel => exact ⟨k + 1, N + x, by omega, by go_num, by go_num, by omega, by omega, HT.out⟩
        case measure => simp [intOf]; omega
      · rw [if_neg h0] at hT
        subst hT
        obtain ⟨m, hm1, hm2, hm3, hm4⟩ := wrap_over ⟨hN0, hN1⟩ hux h0
        have HM := Lib.hid hm2
        obtain ⟨hx1, hx2⟩ := hux
        clear hd hxe hx HT hm2 h0
        go_wp2
        go_ret2
        exact ⟨rfl, rfl⟩
    · have ej : k = l.length := by omega
      subst ej
      rw [List.drop_of_length_le (Nat.le_refl _)] at hT
      subst hT
      clear HT
      go_wp2
      go_ret2
      exact ⟨rfl, rfl⟩
theorem sq_split (l g : Int) : (4294967296 * g + l) * (4294967296 * g + l) = 18446744073709551616 * (g * g) + 8589934592 * (l * g) + l * l := by grind
theorem mul_bound {l g : Int} (h1 : 0 ≤ l ∧ l < 4294967296) (h2 : 0 ≤ g ∧ g < 4294967296) : 0 ≤ l * g ∧ l * g ≤ 18446744065119617025 :=
  ⟨Int.mul_nonneg h1.1 h2.1, Int.le_trans (Int.mul_le_mul (show l ≤ 4294967295 by omega) (show g ≤ 4294967295 by omega) h2.1 (by omega)) (by decide)⟩
theorem wrap64u (n : Int) : IntKind.u64.wrap n = n % 18446744073709551616 := by simp [IntKind.wrap, IntKind.signed, IntKind.bits]
set_option maxHeartbeats 1000000 in
theorem sq_any (a : Int) (w : World) (h : U64 a) : Calls Try.prog 17 #[.int .u64 a] w fun e w' => e = .returned (.tuple #[.int .u64 (a * a / 18446744073709551616), .int .u64 (a * a % 18446744073709551616)]) ∧ w = w' := by
  obtain ⟨h1, h2⟩ := h
  obtain ⟨l, hl⟩ : ∃ l, l = a % 4294967296 := ⟨_, rfl⟩
  obtain ⟨g, hg⟩ : ∃ g, g = a / 4294967296 := ⟨_, rfl⟩
  have hand : bits .and .u64 a 4294967295 = l := by rw [hl]; exact bits_mask .u64 64 (by decide) wraps_u64 32 (by decide) a h1 (by omega)
  have hdiv : a / 4294967296 = g := hg.symm
  have hl1 : 0 ≤ l ∧ l < 4294967296 := by omega
  have hg1 : 0 ≤ g ∧ g < 4294967296 := by omega
  have hsq : a * a = 18446744073709551616 * (g * g) + 8589934592 * (l * g) + l * l := by
    rw [← sq_split]
    have : a = 4294967296 * g + l := by omega
    rw [← this]
  have hm1 := mul_bound hl1 hg1
  have hb1 := mul_bound hl1 hl1
  have ht1 := mul_bound hg1 hg1
  clear hl hg
  obtain ⟨A, hA⟩ : ∃ A, A = a * a := ⟨_, rfl⟩
  rw [← hA] at hsq ⊢
  obtain ⟨m, hm⟩ : ∃ m, l * g = m := ⟨_, rfl⟩
  obtain ⟨b, hb⟩ : ∃ b, l * l = b := ⟨_, rfl⟩
  obtain ⟨t, ht⟩ : ∃ t, g * g = t := ⟨_, rfl⟩
  rw [hm] at hsq hm1
  rw [hb] at hsq hb1
  rw [ht] at hsq ht1
  obtain ⟨s1, hs1⟩ : ∃ s1, IntKind.u64.wrap (m * 8589934592) = s1 := ⟨_, rfl⟩
  obtain ⟨s, hs⟩ : ∃ s, IntKind.u64.wrap (b + s1) = s := ⟨_, rfl⟩
  have hs1' : s1 = m * 8589934592 % 18446744073709551616 := by rw [← hs1, wrap64u]
  have hs' : s = (b + s1) % 18446744073709551616 := by rw [← hs, wrap64u]
  have hlow : A % 18446744073709551616 = s := by omega
  by_cases hc : s < b
  · have hhi : A / 18446744073709551616 = t + m / 2147483648 + 1 := by omega
    rw [hlow, hhi]
    have hsb : 0 ≤ s := by omega
    have htb : t + m / 2147483648 + 1 < 18446744073709551616 := by omega
    clear hsq hA hlow hhi hs' hs1' h1 h2 hl1 hg1
    go_enter Try.func17, Try.ntmps17
    go_wp2
    go_ret2
    exact ⟨rfl, rfl⟩
  · have hhi : A / 18446744073709551616 = t + m / 2147483648 := by omega
    rw [hlow, hhi]
    have hsb : 0 ≤ s := by omega
    have htb : t + m / 2147483648 < 18446744073709551616 := by omega
    clear hsq hA hlow hhi hs' hs1' h1 h2 hl1 hg1
    go_enter Try.func17, Try.ntmps17
    go_wp2
    go_ret2
    exact ⟨rfl, rfl⟩

def minU : Int → List Int → Int
  | m, [] => m
  | m, x :: l => minU (if x < m then x else m) l
set_option maxHeartbeats 1000000 in
theorem min_any (x0 : Int) (l : List Int) (w : World) (A : Option Addr) (c : Nat) (hr : ReadsI w .u64 A (x0 :: l)) (hl : l.length ≤ 200000000000000) : Calls Try.prog 16 #[.slice A (l.length + 1) c] w fun e w' => e = .returned (.int .u64 (minU x0 l)) ∧ w = w' := by
  obtain ⟨g, o, rfl, hx⟩ := hr.plain (by simp)
  simp only [List.length_cons] at hx
  have c0 : w.cell? ⟨g, o, none⟩ = some (.int .u64 x0) := hx 0 (by omega)
  obtain ⟨T, hT⟩ : ∃ T, T = minU x0 l := ⟨_, rfl⟩
  rw [← hT]
  have HT := Lib.hid hT
  have HX := Lib.hid hx
  clear hr hT hx
  go_enter Try.func16, Try.ntmps16
  go_wp2
  go_loop [3, 4] (fun m i => ∃ (k : Nat) (M : Int), k ≤ l.length ∧ i = .int .i64 (k + 1) ∧ m = .int .u64 M ∧ T = minU M (l.drop k)) (fun _ i => l.length + 1 - (intOf i).toNat)
  case atStart => exact ⟨0, x0, by omega, rfl, rfl, HT.out⟩
  case round =>
    obtain ⟨k, M, hk, rfl, rfl, hT⟩ := hrel
    by_cases hk2 : k < l.length
    · have hcell := HX.out (k + 1) (by omega)
      have hd := drop_getD l k hk2
      simp only [List.getD_cons_succ] at hcell
      obtain ⟨x, hxe⟩ : ∃ x, x = l.getD k 0 := ⟨_, rfl⟩
      rw [hd, ← hxe, minU] at hT
      rw [← hxe] at hcell
      by_cases h0 : x < M
      · rw [if_pos h0] at hT
        have HT := Lib.hid hT
        have hmin : min M x = x := by omega
        clear hT hd hxe
        go_wp2
        go_round
        case rel => exact ⟨k + 1, x, by omega, by go_num, by first | rfl | (congr 1; omega), HT.out⟩
        case measure => simp [intOf]; omega
      · rw [if_neg h0] at hT
        have HT := Lib.hid hT
        have hmin : min M x = M := by omega
        clear hT hd hxe
        go_wp2
        go_round
        case rel => exact ⟨k + 1, M, by omega, by go_num, by first | rfl | (congr 1; omega), HT.out⟩
        case measure => simp [intOf]; omega
    · have ej : k = l.length := by omega
      subst ej
      rw [List.drop_of_length_le (Nat.le_refl _)] at hT
      subst hT
      clear HT
      go_wp2
      go_ret
      exact ⟨rfl, rfl⟩
end Go.Proofs.Ytpcebifdlgkccaa
