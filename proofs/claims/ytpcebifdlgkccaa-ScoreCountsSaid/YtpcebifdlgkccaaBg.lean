/- Scores: the reference's naturals. -/
import Derived.Test.YtpcebifdlgkccaaOf
import Derived.Test.YtpcebifdlgkccaaBn
import Derived.Test.YtpcebifdlgkccaaRd
import Derived.Deep.Cut
import Derived.Deep.LoopGhost
set_option linter.unusedVariables false
set_option linter.unusedSimpArgs false
namespace Go.Proofs.Ytpcebifdlgkccaa
open Go.RowKit Go.Ps

theorem info52 : (Try.prog.info? 52).map (fun i => (i.zero, i.size, i.bytes)) = some (some (.int .u32 0), 1, 4) := by kernel_rfl
theorem size52 : (Try.prog.info? 52).map (·.size) = some 1 := by kernel_rfl
theorem wrap32u (n : Int) : IntKind.u32.wrap n = n % 4294967296 := by simp [IntKind.wrap, IntKind.signed, IntKind.bits]
theorem i64w {n : Int} (h : -9223372036854775808 ≤ n ∧ n ≤ 9223372036854775807) : IntKind.i64.wrap n = n := by simp [IntKind.wrap, IntKind.bits, IntKind.signed]; omega
/-- A row of its own that is the natural V. -/
def LP (V : Int) (w : World) (e : Ending) (w' : World) : Prop := ∃ v m, e = .returned v ∧ New 52 .u32 w w' v m ∧ Dig m ∧ trimL m = m ∧ valN m = V
theorem own_lit {w : World} {g : Nat} {e : TypeId} {q : IntKind} (l : List Int) (cap : Nat) (hg : w.heap[g]? = some (.cells (l.map (Value.int q)).toArray e (0, 0))) (hc : cap = l.length) (hl : l.length ≤ 1000000) : Own w e q (.slice (some ⟨g, 0, none⟩) l.length cap) l := by
  subst hc
  refine ⟨by simp, .inr ⟨g, l.length, (l.map (Value.int q)).toArray, rfl, Nat.zero_le _, hg, Nat.le_refl _, by unfold maxLen; omega, by simp, by simp [List.take_of_length_le]⟩⟩
theorem new_lit52 (w : World) (l : List Int) (hl : l.length ≤ 1000000) : New 52 .u32 w (w.alloc (.cells (l.map (Value.int .u32)).toArray 52)) (.slice (some ⟨w.heap.size, 0, none⟩) l.length l.length) l :=
  ⟨own_lit l l.length (heap_alloc_at _ _) rfl hl, (Chg.refl _ _).alloc _, fun k hk => by cases hk; exact Nat.le_refl _⟩
set_option maxHeartbeats 1000000 in
theorem trim_any (w : World) (A : Option Addr) (c : Nat) (l : List Int) (hr : ReadsI w .u32 A l) (hd : Dig l) (hl : l.length ≤ 100000) (hcap : l.length ≤ c) : Calls Try.prog 23 #[.slice A l.length c] w (LP (valN l) w) := by
  have HR := Lib.hid hr
  have HD := Lib.hid hd
  clear hr hd
  go_enter Try.func23, Try.ntmps23
  go_wp2
  go_loop [3] (fun n => ∃ k : Nat, k ≤ l.length ∧ n = .int .i64 k ∧ Hid (∀ j, k ≤ j → j < l.length → l.getD j 0 = 0)) (fun n => (intOf n).toNat)
  case atStart => exact ⟨l.length, Nat.le_refl _, rfl, Lib.hid (fun j h1 h2 => by omega)⟩
  case round =>
    obtain ⟨k, hk, rfl, hz⟩ := hrel
    have fin : (k = 0 ∨ l.getD (k - 1) 0 ≠ 0) → ∃ A7 c7 w7, (Builtin.append_ #[47, 47] 47 #[.slice (some ⟨w.heap.size, 0, none⟩) 0 0, .slice (cutA A 0 c) k c]).run Try.prog (w.alloc (.cells #[] 52)) = .ok (.slice A7 k c7) w7 ∧ LP (valN l) w (.returned (.slice A7 k c7)) w7 := fun h => by
      have ht := trimL_take l k hk hz.out h
      have hs := cutA_sub (c := c) ((HR.out.alloc (.cells #[] 52))) 0 k hk hcap
      rw [List.drop_zero] at hs
      have hlk : (l.take k).length = k := by rw [List.length_take]; omega
      obtain ⟨A7, c7, w7, h1, h2⟩ := New.app (P := Try.prog) (t := 47) (cB := c) (new_lit52 w [] (by simp)) Try.underlying47 info52 rfl hs (by simp; omega) (by omega)
      simp only [hlk, List.length_nil, Nat.zero_add, List.nil_append] at h1 h2
      exact ⟨A7, c7, w7, h1, _, l.take k, rfl, h2, HD.out.take k, by rw [← ht]; exact trimL_idem l, by rw [← ht]; exact valN_trim l⟩
    have hsl := fun W => run_cutH (P := Try.prog) (kj := .i64) Try.underlying47 size52 A l.length c k (by omega) W
    by_cases hk0 : k = 0
    · obtain ⟨A7, c7, w7, hap, hlp⟩ := fin (.inl hk0)
      have HLP := Lib.hid hlp
      have hkI : ¬ (0 : Int) < (k : Int) := by omega
      clear fin hz hlp hk0
      go_wp2_with (first | (with_reducible refine wpList_slice_run rfl 47 _ none (some _) rfl _ _ none _ rfl rfl rfl (hsl _) ?_) | (at_builtin; refine wpList_append_run rfl (.tmp 18) (.tmp 21) 47 rfl _ _ _ _ rfl rfl hap ?_))
      go_ret
      exact HLP.out
    · obtain ⟨g, o, rfl, hx⟩ := HR.out.plain (by rintro rfl; simp at hk; omega)
      have hc := hx (k - 1) (by omega)
      obtain ⟨y, hy⟩ : ∃ y, y = l.getD (k - 1) 0 := ⟨_, rfl⟩
      rw [← hy] at hc fin
      have hkI : (0 : Int) < (k : Int) := by omega
      by_cases hy0 : y = 0
      · subst hy0
        have HZ := Lib.hid (show ∀ j, k - 1 ≤ j → j < l.length → l.getD j 0 = 0 from fun j h1 h2 => by
          by_cases e : j = k - 1
          · subst e; exact hy.symm
          · exact hz.out j (by omega) h2)
        clear fin hz hx hy hsl
        go_wp2
        go_round
        case rel => exact ⟨k - 1, by omega, by first | go_num | (congr 1; omega), HZ⟩
        case measure => simp [intOf]; omega
      · have hyb : (y == 0) = false := by simpa using hy0
        obtain ⟨A7, c7, w7, hap, hlp⟩ := fin (.inr hy0)
        have HLP := Lib.hid hlp
        clear fin hz hlp hx hy hy0
        go_wp2_with (first | (with_reducible refine wpList_slice_run rfl 47 _ none (some _) rfl _ _ none _ rfl rfl rfl (hsl _) ?_) | (at_builtin; refine wpList_append_run rfl (.tmp 18) (.tmp 21) 47 rfl _ _ _ _ rfl rfl hap ?_))
        go_ret
        exact HLP.out
set_option maxHeartbeats 1000000 in
theorem of18_any (n : Int) (w : World) (h : U64 n) : Calls Try.prog 18 #[.int .u64 n] w (LP n w) := by
  obtain ⟨h1, h2⟩ := h
  obtain ⟨a, ha⟩ : ∃ a, a = n % 4294967296 := ⟨_, rfl⟩
  obtain ⟨b, hb⟩ : ∃ b, b = n / 4294967296 := ⟨_, rfl⟩
  have hd : Dig [a, b] := by intro x hx; simp at hx; rcases hx with rfl | rfl <;> omega
  have hv : valN [a, b] = n := by simp only [valN]; omega
  have htr := trim_any (w.alloc (.cells ([a, b].map (Value.int .u32)).toArray 52)) (some ⟨w.heap.size, 0, none⟩) 2 [a, b] (ReadsI.of_block (heap_alloc_at _ _)) hd (by simp) (by simp)
  rw [hv] at htr
  have hwa : IntKind.u32.wrap n = a := by rw [wrap32u, ha]
  have hwb : IntKind.u32.wrap (n / 4294967296) = b := by rw [wrap32u, hb]; omega
  have HT := Lib.hid htr
  clear hd hv htr ha hb
  go_enter Try.func18, Try.ntmps18
  go_wp2_with fail
  refine HT.out.mono ?_
  rintro e w1 ⟨v, m, rfl, hN, h3, h4, h5⟩
  have HF := Lib.hid (show LP n w (.returned v) w1 from ⟨v, m, rfl, New.after ((Chg.refl _ _).alloc _) hN, h3, h4, h5⟩)
  clear hN h3 h4 h5
  go_wp2
  go_ret
  exact HF.out
end Go.Proofs.Ytpcebifdlgkccaa
