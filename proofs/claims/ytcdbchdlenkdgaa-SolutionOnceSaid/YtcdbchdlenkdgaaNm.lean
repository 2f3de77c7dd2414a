/- Compact numbers: the document's Number. -/
import Derived.Test.YtcdbchdlenkdgaaTk
import Derived.Deep.LoopGhost
set_option linter.unusedVariables false
set_option linter.unusedSimpArgs false
namespace Go.Proofs.Ytcdbchdlenkdgaa
open Go.RowKit Go.Ps

theorem info5 : (Try.prog.info? 5).map (fun i => (i.zero, i.size, i.bytes)) = some (some (.int .u8 0), 1, 1) := by kernel_rfl
/-- A row of bytes of its own, in a new block. -/
def NewB (w w' : World) (v : Value) (l : List Int) : Prop := Own w' 5 .u8 v l ∧ Chg (fun _ => False) w w' ∧ ∀ k, v.ownBlock = some k → w.heap.size ≤ k
theorem own_of_block {w : World} {g : Nat} {e : TypeId} {q : IntKind} (l : List Int) (cap : Nat) (hg : w.heap[g]? = some (.cells (l.map (Value.int q)).toArray e (0, 0))) (hc : cap = l.length) (hl : l.length ≤ 1000000) : Own w e q (.slice (some ⟨g, 0, none⟩) l.length cap) l := by
  subst hc
  refine ⟨by simp, .inr ⟨g, l.length, (l.map (Value.int q)).toArray, rfl, Nat.zero_le _, hg, Nat.le_refl _, by unfold maxLen; omega, by simp, by simp [List.take_of_length_le]⟩⟩
def NumPost (n : Int) (w : World) (e : Ending) (w' : World) : Prop := ∃ v, e = .returned v ∧ NewB w w' v (enc n)
theorem new_lit (w : World) (l : List Int) (hl : l.length ≤ 1000000) : NewB w (w.alloc (.cells (l.map (Value.int .u8)).toArray 5)) (.slice (some ⟨w.heap.size, 0, none⟩) l.length l.length) l :=
  ⟨own_of_block l l.length (heap_alloc_at _ _) rfl hl, (Chg.refl _ _).alloc _, fun k hk => by cases hk; exact Nat.le_refl _⟩
theorem or1 (n : Int) (h0 : 0 ≤ n) (h : n < 4611686018427387904) : bits .or .u64 (n * 4) 1 = 4 * n + 1 := by
  rw [bits_join .u64 64 (by decide) wraps_u64 2 (n * 4) 1 (by omega) (by omega) (by omega) (by omega) (by omega) (by omega)]
  omega
theorem or2 (n : Int) (h0 : 0 ≤ n) (h : n < 4611686018427387904) : bits .or .u64 (n * 4) 2 = 4 * n + 2 := by
  rw [bits_join .u64 64 (by decide) wraps_u64 2 (n * 4) 2 (by omega) (by omega) (by omega) (by omega) (by omega) (by omega)]
  omega
theorem csz_low (n : Int) (h : 1073741824 ≤ n) (j : Nat) (hj : j < csz n - 1) : 256 ^ j ≤ n := by
  have hc := csz_le n
  have : j = 0 ∨ j = 1 ∨ j = 2 ∨ j = 3 ∨ j = 4 ∨ j = 5 ∨ j = 6 ∨ j = 7 := by omega
  unfold csz at hj
  revert hj
  rcases this with rfl | rfl | rfl | rfl | rfl | rfl | rfl | rfl
  all_goals
    repeat' split
    all_goals (intro hj; first | omega | (simp; omega))
theorem dig_snoc : ∀ (k : Nat) (n : Int), dig (k + 1) n = dig k n ++ [n / 256 ^ k % 256]
  | 0, n => by simp [dig]
  | k + 1, n => by
    rw [dig, dig_snoc k (n / 256), dig, List.cons_append, Int.ediv_ediv_of_nonneg (by decide), Int.pow_succ, Int.mul_comm]
set_option maxRecDepth 20000 in
theorem number_any (n : Int) (w : World) (h : U64' n) : Calls Try.prog 23 #[.int .u64 n] w (NumPost n w) := by
  obtain ⟨h1, h2⟩ := h
  by_cases c1 : n < 64
  · have fin : NumPost n w (.returned (.slice (some ⟨w.heap.size, 0, none⟩) 1 1)) (w.alloc (.cells #[.int .u8 (n * 4)] 5)) := by
      refine ⟨_, rfl, ?_⟩
      have e : enc n = [n * 4] := by unfold enc; rw [if_pos c1]; simp [dig]; omega
      rw [e]
      exact new_lit w [n * 4] (by simp)
    have hH := Lib.hid fin
    clear fin
    go_enter Try.func23, Try.ntmps23
    go_wp2
    go_ret
    exact hH.out
  · by_cases c2 : n < 16384
    · have ho := or1 n h1 (by omega)
      have fin : NumPost n w (.returned (.slice (some ⟨w.heap.size, 0, none⟩) 2 2)) (w.alloc (.cells #[.int .u8 ((4 * n + 1) % 256), .int .u8 ((4 * n + 1) / 256)] 5)) := by
        refine ⟨_, rfl, ?_⟩
        have e : enc n = [(4 * n + 1) % 256, (4 * n + 1) / 256] := by unfold enc; rw [if_neg c1, if_pos c2]; simp [dig]; omega
        rw [e]
        exact new_lit w [(4 * n + 1) % 256, (4 * n + 1) / 256] (by simp)
      have hH := Lib.hid fin
      clear fin
      go_enter Try.func23, Try.ntmps23
      go_wp2
      go_ret
      exact hH.out
    · by_cases c3 : n < 1073741824
      · have ho := or2 n h1 (by omega)
        have fin : NumPost n w (.returned (.slice (some ⟨w.heap.size, 0, none⟩) 4 4)) (w.alloc (.cells #[.int .u8 ((4 * n + 2) % 256), .int .u8 ((4 * n + 2) / 256 % 256), .int .u8 ((4 * n + 2) / 65536 % 256), .int .u8 ((4 * n + 2) / 16777216)] 5)) := by
          refine ⟨_, rfl, ?_⟩
          have e : enc n = [(4 * n + 2) % 256, (4 * n + 2) / 256 % 256, (4 * n + 2) / 65536 % 256, (4 * n + 2) / 16777216] := by unfold enc; rw [if_neg c1, if_neg c2, if_pos c3]; simp [dig]; omega
          rw [e]
          exact new_lit w [(4 * n + 2) % 256, (4 * n + 2) / 256 % 256, (4 * n + 2) / 65536 % 256, (4 * n + 2) / 16777216] (by simp)
        have hH := Lib.hid fin
        clear fin
        go_enter Try.func23, Try.ntmps23
        go_wp2
        go_ret
        exact hH.out
      · obtain ⟨K, hK⟩ : ∃ K, K = csz n - 1 := ⟨_, rfl⟩
        have hK2 := csz_cases n (by omega)
        have hp := csz_pow n (by omega) h2
        have hpl : ∀ j, j < K → 256 ^ j ≤ n := fun j hj => csz_low n (by omega) j (by omega)
        rw [← hK] at hp
        have he : enc n = (((K : Int) + 1 - 5) * 4 + 3) :: dig K n := by unfold enc; rw [if_neg c1, if_neg c2, if_neg c3, ← hK]; congr 3; omega
        have hK4 : 4 ≤ K ∧ K ≤ 8 := by omega
        have HP := Lib.hid hp
        have HPL := Lib.hid hpl
        have HE := Lib.hid he
        clear hp hpl he hK hK2
        go_enter Try.func23, Try.ntmps23
        go_wp2
        go_loopg [0, 3] K (fun gk v0 v3 wr => ∃ g c, gk ≤ K ∧ v0 = .int .u64 (n / 256 ^ (K - gk)) ∧ v3 = .slice (some ⟨g, 0, none⟩) (K - gk + 1) c ∧ NewB w wr (.slice (some ⟨g, 0, none⟩) (K - gk + 1) c) (0 :: dig (K - gk) n))
        case atStart =>
          refine ⟨w.heap.size, 1, Nat.le_refl _, by simp, by simp, ?_⟩
          simp only [Nat.sub_self, dig]
          exact new_lit w [0] (by simp)
        case round =>
          obtain ⟨g, c, hgk, rfl, rfl, hN⟩ := hrel
          cases gk with
          | succ gk =>
            obtain ⟨j, hj⟩ : ∃ j, j = K - (gk + 1) := ⟨_, rfl⟩
            have hj1 : K - gk = j + 1 := by omega
            have hjK : j < K := by omega
            rw [← hj] at hN ⊢
            have hp := HPL.out j hjK
            have hpw : (0 : Int) < 256 ^ j := Int.pow_pos (by decide)
            have hV0 : 0 < n / 256 ^ j := by have := (Int.le_ediv_iff_mul_le hpw).2 (show 1 * 256 ^ j ≤ n by omega); omega
            have hV2 : n / 256 ^ j < 18446744073709551616 := Int.lt_of_le_of_lt (Int.ediv_le_self _ h1) h2
            have hnext : n / 256 ^ (j + 1) = n / 256 ^ j / 256 := by rw [Int.ediv_ediv_of_nonneg (by omega), Int.pow_succ]
            obtain ⟨V, hV⟩ : ∃ V, V = n / 256 ^ j := ⟨_, rfl⟩
            have hds := dig_snoc j n
            rw [← hV] at hV0 hV2 hnext hds ⊢
            obtain ⟨hO, hC, hF⟩ := hN
            obtain ⟨A2, c2, w2, hap, ho2, hg2, hat2⟩ := hO.append1 (P := Try.prog) 22 Try.underlying22 info5 (V % 256) (by simp [dig_length]; omega) (by omega)
            simp only [List.length_cons, dig_length] at hap ho2 hat2
            have hC2 : Chg (fun _ => False) w w2 := hC.grown hg2 (fun k hk hlt => by have := hF k hk; omega)
            have hF2 : ∀ k, Value.ownBlock (.slice A2 (j + 1 + 1) c2) = some k → w.heap.size ≤ k := fun k hk => by
              rcases hat2 k hk with h' | h'
              · exact hF k h'
              · exact Nat.le_trans hC.size h'
            have fin : Hid (∃ g c, .slice A2 (j + 1 + 1) c2 = Value.slice (some ⟨g, 0, none⟩) (K - gk + 1) c ∧ NewB w w2 (.slice (some ⟨g, 0, none⟩) (K - gk + 1) c) (0 :: dig (K - gk) n)) := Lib.hid (by
              obtain ⟨g', c', cur, hv, _, _, _⟩ := ho2.at_ (by simp)
              simp only [List.length_append, List.length_cons, dig_length, List.length_nil] at hv
              rw [hj1, hds]
              have hv' : Value.slice A2 (j + 1 + 1) c2 = .slice (some ⟨g', 0, none⟩) (j + 1 + 1) c' := by rw [hv]
              refine ⟨g', c', hv', ?_, hC2, fun k hk => hF2 k (hv' ▸ hk)⟩
              rw [← hv']
              exact ho2)
            have hnb : (0 : Int) < V := hV0
            clear hO hC hF ho2 hg2 hat2 hC2 hF2 hds hp hpw hV hj HPL HP HE
            have HNX := Lib.hid hnext
            have HJ := Lib.hid hj1
            clear hnext hj1
            go_wp2_with (at_builtin; refine wpList_append_run rfl _ _ 22 rfl _ _ _ _ rfl rfl hap ?_)
            go_roundg gk
            case measure => omega
            case rel =>
              obtain ⟨g', c', hv, hN⟩ := fin.out
              exact ⟨g', c', by omega, by rw [HJ.out, HNX.out], hv, hN⟩
          | zero =>
            rw [Nat.sub_zero] at hN ⊢
            have hz : n / 256 ^ K = 0 := Int.ediv_eq_zero_of_lt h1 HP.out
            rw [hz]
            obtain ⟨hO, hC, hF⟩ := hN
            obtain ⟨g', c', cur, hv, hob, hg, hcur⟩ := hO.at_ (by simp)
            cases hob
            have hcell : wr.cell? ⟨g, 0, none⟩ = some (.int .u8 0) := cell_of hg 0 (hcur 0 (by simp))
            have hfz : wr.frozen? ⟨g, 0, none⟩ = false := frozen_of hg 0
            have fin : ∀ x, x = ((K : Int) + 1 - 5) * 4 + 3 → NumPost n w (.returned (.slice (some ⟨g, 0, none⟩) (K + 1) c)) (wr.setCell ⟨g, 0, none⟩ (.int .u8 x)) := fun x hx => by
              refine ⟨_, rfl, ?_, hC.setCell (fun hlt => by have := hF g rfl; have hlt2 : g < w.heap.size := hlt; omega) _, hF⟩
              have := hO.store (g := g) (i := 0) rfl (by simp) x
              rw [HE.out, ← hx]
              exact this
            have FIN := Lib.hid fin
            clear fin hO hC hF hg hcur hz hv HP HE HPL
            go_wp2
            go_ret
            exact FIN.out _ (by omega)
end Go.Proofs.Ytcdbchdlenkdgaa
