/- Compact numbers: TakeList, and the document's; same. -/
import Derived.Test.YtcdbchdlenkdgaaLi
import Derived.Test.YtcdbchdlenkdgaaLa
set_option linter.unusedVariables false
set_option linter.unusedSimpArgs false
namespace Go.Proofs.Ytcdbchdlenkdgaa
open Go.RowKit Go.Ps

theorem info24 : (Try.prog.info? 24).map (fun i => (i.zero, i.size, i.bytes)) = some (some (.int .u64 0), 1, 8) := by kernel_rfl
theorem size5 : (Try.prog.info? 5).map (·.size) = some 1 := by kernel_rfl
def TLPost (t : List Int × Int × Int) (w : World) (e : Ending) (w' : World) : Prop := ∃ v, e = .returned (.tuple #[v, .int .i64 t.2.1, .int .i64 t.2.2]) ∧ New 24 .u64 w w' v t.1
theorem TLPost.none {t : List Int × Int × Int} {w w' : World} (h : Chg (fun _ => False) w w') (ht : t.1 = []) : TLPost t w (.returned (.tuple #[.slice none 0 0, .int .i64 t.2.1, .int .i64 t.2.2])) w' :=
  ⟨_, rfl, by rw [ht]; exact (New.nil _ _ _).chg h⟩
theorem tks_step {l : List Int} {n i : Nat} {acc : List Int} : tks l (n + 1) i acc = if (tk (l.drop i)).2.2 = 0 then tks l n (i + (tk (l.drop i)).2.1.toNat) (acc ++ [(tk (l.drop i)).1]) else ([], 0, (tk (l.drop i)).2.2) := rfl
set_option maxRecDepth 100000 in
set_option maxHeartbeats 1000000 in
theorem takelist_any (w : World) (A : Option Addr) (c : Nat) (l : List Int) (most : Int) (hr : ReadsI w .u8 A l) (hb : Bytes l) (hl : l.length ≤ 28000000000000) (hcap : l.length ≤ c) (hm : -9223372036854775808 ≤ most ∧ most ≤ 9223372036854775807) : Calls Try.prog 19 #[.slice A l.length c, .int .i64 most] w (TLPost (tkl l most) w) := by
  have h17 := take_any w A c l hr hb (by omega) hcap
  have hf := tk_facts hb
  unfold TkPost at h17
  obtain ⟨t, ht⟩ : ∃ t, t = tk l := ⟨_, rfl⟩
  rw [← ht] at h17 hf
  obtain ⟨tn, tk1, te⟩ := t
  simp only at hf h17
  have htl : tkl l most = if te = 0 then (if most < 0 ∨ most < tn then ([], 0, 4) else tks l tn.toNat tk1.toNat []) else ([], 0, te) := by unfold tkl; rw [← ht]
  have HR := Lib.hid hr
  have HB := Lib.hid hb
  by_cases he : te = 0
  · subst he
    have hf' : U64' tn ∧ 1 ≤ tk1 ∧ tk1 ≤ l.length := by
      rcases hf with h | h
      · exact ⟨h.2.1, h.2.2.1, h.2.2.2.2.1⟩
      · omega
    by_cases h1 : most < 0
    · rw [if_pos rfl, if_pos (Or.inl h1)] at htl
      rw [htl]
      clear htl hf hr hb ht
      go_enter Try.func19, Try.ntmps19
      go_wp2_with (go_at_call 17; refine h17.mono ?_; rintro e w1 ⟨rfl, n1, rfl⟩)
      go_ret3
      exact TLPost.none ((Chg.refl _ _).drewN _) rfl
    · by_cases h2 : most < tn
      · rw [if_pos rfl, if_pos (Or.inr h2)] at htl
        rw [htl]
        clear htl hf hr hb ht
        obtain ⟨⟨h3, h4⟩, h5, h6⟩ := hf'
        go_enter Try.func19, Try.ntmps19
        go_wp2_with (go_at_call 17; refine h17.mono ?_; rintro e w1 ⟨rfl, n1, rfl⟩)
        go_ret3
        exact TLPost.none ((Chg.refl _ _).drewN _) rfl
      · rw [if_pos rfl, if_neg (by omega)] at htl
        rw [htl]
        obtain ⟨⟨h3, h4⟩, h5, h6⟩ := hf'
        obtain ⟨I, rfl⟩ : ∃ I : Nat, tk1 = (I : Int) := ⟨tk1.toNat, by omega⟩
        simp only [Int.toNat_natCast]
        obtain ⟨T, hT⟩ : ∃ T, T = tks l tn.toNat I [] := ⟨_, rfl⟩
        rw [← hT]
        have HT := Lib.hid hT
        clear htl hf hr hb ht hT
        go_enter Try.func19, Try.ntmps19
        go_wp2_with (go_at_call 17; refine h17.mono ?_; rintro e w1 ⟨rfl, n1, rfl⟩)
        clear h17
        go_loopw [7, 8, 10] (fun n i v wr => ∃ (N : Int) (I m : Nat) (acc : List Int) (A3 : Option Addr) (c3 : Nat), n = .int .u64 N ∧ 0 ≤ N ∧ N < 18446744073709551616 ∧ i = .int .i64 I ∧ v = .slice A3 m c3 ∧ I ≤ l.length ∧ acc.length ≤ I ∧ T = tks l N.toNat I acc ∧ New 24 .u64 w wr (.slice A3 m c3) acc) (fun n _ _ _ => (intOf n).toNat)
        case atStart => exact ⟨tn, I, 0, [], none, 0, rfl, h3, h4, rfl, rfl, by omega, by simp, HT.out, (New.nil _ _ _).chg ((Chg.refl _ _).drewN _)⟩
        case round =>
          obtain ⟨N, I, m, acc, A3, c3, rfl, hN0, hN1, rfl, rfl, hI, hacc, hT, hN⟩ := hrel
          have hml := (New.cap hN).1
          by_cases hNz : N = 0
          · subst hNz
            have fin : TLPost T w (.returned (.tuple #[.slice A3 m c3, .int .i64 I, .int .i64 0])) wr := ⟨_, by rw [hT]; rfl, by rw [hT]; exact hN⟩
            have FIN := Lib.hid fin
            clear fin hN hT hml hacc
            go_wp2
            go_ret3
            exact FIN.out
          · have hNp : 0 < N := by omega
            have hNs : N.toNat = (N - 1).toNat + 1 := by omega
            rw [hNs, tks_step] at hT
            clear hNs hNz
            have hrW : ReadsI wr .u8 A l := HR.out.chg hN.2.1 (fun _ _ => id)
            have hcut := cutA_sub hrW I l.length (Nat.le_refl _) hcap
            rw [List.take_length] at hcut
            have h17 := take_any wr (cutA A I c) (c - I) (l.drop I) hcut (HB.out.drop I) (by rw [List.length_drop]; omega) (by rw [List.length_drop]; omega)
            rw [List.length_drop] at h17
            have hf := tk_facts (HB.out.drop I)
            rw [List.length_drop] at hf
            unfold TkPost at h17
            obtain ⟨t, ht⟩ : ∃ t, t = tk (l.drop I) := ⟨_, rfl⟩
            rw [← ht] at h17 hf hT
            obtain ⟨x, k, e⟩ := t
            simp only at hf h17 hT
            have hsl := fun W => run_cutL (P := Try.prog) (ki := .i64) Try.underlying22 size5 A l.length c I hI hcap W
            by_cases he : e = 0
            · subst he
              rw [if_pos rfl] at hT
              have hf' : U64' x ∧ 1 ≤ k ∧ k ≤ ((l.length - I : Nat) : Int) := by
                rcases hf with h | h
                · exact ⟨h.2.1, h.2.2.1, h.2.2.2.2.1⟩
                · omega
              obtain ⟨⟨hx1, hx2⟩, hk1, hk2⟩ := hf'
              obtain ⟨K, rfl⟩ : ∃ K : Nat, k = (K : Int) := ⟨k.toNat, by omega⟩
              rw [Int.toNat_natCast] at hT
              have hmI : m ≤ I := by omega
              have hIl : I < l.length := by omega
              have hIK : I + K ≤ l.length := by omega
              have HN := Lib.hid hN
              have HML := Lib.hid hml
              have HTT := Lib.hid hT
              clear hN hT hml hrW hcut hf ht
              go_wp2_with (first | (go_at_call 17; refine h17.mono ?_; rintro e w1 ⟨rfl, n2, rfl⟩; obtain ⟨A4, c4, w4, hap, hN4⟩ := New.push (HN.out.chg ((Chg.refl _ wr).drewN n2)) Try.underlying29 info24 HML.out.symm x (by omega) (by omega)) | (with_reducible refine wpList_slice_run rfl 22 _ _ none rfl _ _ _ none rfl rfl rfl (hsl _) ?_) | (at_builtin; refine wpList_append_run rfl _ _ 29 rfl _ _ _ _ rfl rfl hap ?_))
              go_roundw
              case rel => exact ⟨N - 1, I + K, m + 1, acc ++ [x], A4, c4, by go_num, by omega, by omega, by go_num, rfl, by omega, by rw [List.length_append]; simp; omega, HTT.out, hN4⟩
              case measure => simp [intOf]; omega
            · rw [if_neg he] at hT
              have fin : ∀ W, Chg (fun _ => False) wr W → TLPost T w (.returned (.tuple #[.slice none 0 0, .int .i64 0, .int .i64 e])) W := fun W hW => by
                rw [hT]
                exact TLPost.none (hN.2.1.trans hW (fun _ _ => id)) rfl
              have FIN := Lib.hid fin
              clear fin hN hT hml hacc hrW hcut hf ht
              go_wp2_with (first | (go_at_call 17; refine h17.mono ?_; rintro e w1 ⟨rfl, n2, rfl⟩) | (with_reducible refine wpList_slice_run rfl 22 _ _ none rfl _ _ _ none rfl rfl rfl (hsl _) ?_))
              go_ret3
              exact FIN.out _ ((Chg.refl _ _).drewN _)
  · rw [if_neg he] at htl
    rw [htl]
    clear htl hf hr hb ht
    go_enter Try.func19, Try.ntmps19
    go_wp2_with (go_at_call 17; refine h17.mono ?_; rintro e w1 ⟨rfl, n1, rfl⟩)
    go_ret3
    exact TLPost.none ((Chg.refl _ _).drewN _) rfl
set_option maxRecDepth 100000 in
set_option maxHeartbeats 1000000 in
theorem rtakelist_any (w : World) (A : Option Addr) (c : Nat) (l : List Int) (most : Int) (hr : ReadsI w .u8 A l) (hb : Bytes l) (hl : l.length ≤ 28000000000000) (hcap : l.length ≤ c) (hm : -9223372036854775808 ≤ most ∧ most ≤ 9223372036854775807) : Calls Try.prog 20 #[.slice A l.length c, .int .i64 most] w (TLPost (tkl l most) w) := by
  have h17 := rtake_any w A c l hr hb (by omega) hcap
  have hf := tk_facts hb
  unfold RTkPost at h17
  obtain ⟨t, ht⟩ : ∃ t, t = tk l := ⟨_, rfl⟩
  rw [← ht] at h17 hf
  obtain ⟨tn, tk1, te⟩ := t
  simp only at hf h17
  have htl : tkl l most = if te = 0 then (if most < 0 ∨ most < tn then ([], 0, 4) else tks l tn.toNat tk1.toNat []) else ([], 0, te) := by unfold tkl; rw [← ht]
  have HR := Lib.hid hr
  have HB := Lib.hid hb
  by_cases he : te = 0
  · subst he
    have hf' : U64' tn ∧ 1 ≤ tk1 ∧ tk1 ≤ l.length := by
      rcases hf with h | h
      · exact ⟨h.2.1, h.2.2.1, h.2.2.2.2.1⟩
      · omega
    by_cases h1 : most < 0
    · rw [if_pos rfl, if_pos (Or.inl h1)] at htl
      rw [htl]
      clear htl hf hr hb ht
      go_enter Try.func20, Try.ntmps20
      go_wp2_with (go_at_call 18; refine h17.mono ?_; rintro e w1 ⟨rfl, hC1⟩)
      go_ret3
      exact TLPost.none hC1 rfl
    · by_cases h2 : most < tn
      · rw [if_pos rfl, if_pos (Or.inr h2)] at htl
        rw [htl]
        clear htl hf hr hb ht
        obtain ⟨⟨h3, h4⟩, h5, h6⟩ := hf'
        go_enter Try.func20, Try.ntmps20
        go_wp2_with (go_at_call 18; refine h17.mono ?_; rintro e w1 ⟨rfl, hC1⟩)
        go_ret3
        exact TLPost.none hC1 rfl
      · rw [if_pos rfl, if_neg (by omega)] at htl
        rw [htl]
        obtain ⟨⟨h3, h4⟩, h5, h6⟩ := hf'
        obtain ⟨I, rfl⟩ : ∃ I : Nat, tk1 = (I : Int) := ⟨tk1.toNat, by omega⟩
        simp only [Int.toNat_natCast]
        obtain ⟨T, hT⟩ : ∃ T, T = tks l tn.toNat I [] := ⟨_, rfl⟩
        rw [← hT]
        have HT := Lib.hid hT
        clear htl hf hr hb ht hT
        go_enter Try.func20, Try.ntmps20
        go_wp2_with (go_at_call 18; refine h17.mono ?_; rintro e w1 ⟨rfl, hC1⟩)
        clear h17
        go_loopw [8, 10, 32] (fun i v n wr => ∃ (N : Int) (I m : Nat) (acc : List Int) (A3 : Option Addr) (c3 : Nat), n = .int .u64 N ∧ 0 ≤ N ∧ N ≤ tn ∧ i = .int .i64 I ∧ v = .slice A3 m c3 ∧ I ≤ l.length ∧ acc.length ≤ I ∧ T = tks l (tn - N).toNat I acc ∧ New 24 .u64 w wr (.slice A3 m c3) acc) (fun _ _ n _ => (tn - intOf n).toNat)
        case atStart => exact ⟨0, I, 0, [], none, 0, rfl, by omega, h3, rfl, rfl, by omega, by simp, by rw [Int.sub_zero]; exact HT.out, (New.nil _ _ _).chg hC1⟩
        case round =>
          obtain ⟨N, I, m, acc, A3, c3, rfl, hN0, hN1, rfl, rfl, hI, hacc, hT, hN⟩ := hrel
          have hml := (New.cap hN).1
          by_cases hNz : N = tn
          · subst hNz
            rw [Int.sub_self] at hT
            have fin : TLPost T w (.returned (.tuple #[.slice A3 m c3, .int .i64 I, .int .i64 0])) wr := ⟨_, by rw [hT]; rfl, by rw [hT]; exact hN⟩
            have FIN := Lib.hid fin
            clear fin hN hT hml hacc
            go_wp2
            go_ret3
            exact FIN.out
          · have hNp : N < tn := by omega
            have hNs : (tn - N).toNat = (tn - (N + 1)).toNat + 1 := by omega
            rw [hNs, tks_step] at hT
            clear hNs hNz
            have hrW : ReadsI wr .u8 A l := HR.out.chg hN.2.1 (fun _ _ => id)
            have hcut := cutA_sub hrW I l.length (Nat.le_refl _) hcap
            rw [List.take_length] at hcut
            have h17 := rtake_any wr (cutA A I c) (c - I) (l.drop I) hcut (HB.out.drop I) (by rw [List.length_drop]; omega) (by rw [List.length_drop]; omega)
            rw [List.length_drop] at h17
            have hf := tk_facts (HB.out.drop I)
            rw [List.length_drop] at hf
            unfold RTkPost at h17
            obtain ⟨t, ht⟩ : ∃ t, t = tk (l.drop I) := ⟨_, rfl⟩
            rw [← ht] at h17 hf hT
            obtain ⟨x, k, e⟩ := t
            simp only at hf h17 hT
            have hsl := fun W => run_cutL (P := Try.prog) (ki := .i64) Try.underlying22 size5 A l.length c I hI hcap W
            by_cases he : e = 0
            · subst he
              rw [if_pos rfl] at hT
              have hf' : U64' x ∧ 1 ≤ k ∧ k ≤ ((l.length - I : Nat) : Int) := by
                rcases hf with h | h
                · exact ⟨h.2.1, h.2.2.1, h.2.2.2.2.1⟩
                · omega
              obtain ⟨⟨hx1, hx2⟩, hk1, hk2⟩ := hf'
              obtain ⟨K, rfl⟩ : ∃ K : Nat, k = (K : Int) := ⟨k.toNat, by omega⟩
              rw [Int.toNat_natCast] at hT
              have hmI : m ≤ I := by omega
              have hIl : I < l.length := by omega
              have hIK : I + K ≤ l.length := by omega
              have HN := Lib.hid hN
              have HML := Lib.hid hml
              have HTT := Lib.hid hT
              clear hN hT hml hrW hcut hf ht
              go_wp2_with (first | (go_at_call 18; refine h17.mono ?_; rintro e w1 ⟨rfl, hC2⟩; obtain ⟨A4, c4, w4, hap, hN4⟩ := New.push (HN.out.chg hC2) Try.underlying29 info24 HML.out.symm x (by omega) (by omega)) | (with_reducible refine wpList_slice_run rfl 22 _ _ none rfl _ _ _ none rfl rfl rfl (hsl _) ?_) | (at_builtin; refine wpList_append_run rfl _ _ 29 rfl _ _ _ _ rfl rfl hap ?_))
              go_roundw
              case rel => exact ⟨N + 1, I + K, m + 1, acc ++ [x], A4, c4, by go_num, by omega, by omega, by go_num, rfl, by omega, by rw [List.length_append]; simp; omega, HTT.out, hN4⟩
              case measure => simp [intOf]; omega
            · rw [if_neg he] at hT
              have fin : ∀ W, Chg (fun _ => False) wr W → TLPost T w (.returned (.tuple #[.slice none 0 0, .int .i64 0, .int .i64 e])) W := fun W hW => by
                rw [hT]
                exact TLPost.none (hN.2.1.trans hW (fun _ _ => id)) rfl
              have FIN := Lib.hid fin
              clear fin hN hT hml hacc hrW hcut hf ht
              go_wp2_with (first | (go_at_call 18; refine h17.mono ?_; rintro e w1 ⟨rfl, hC2⟩) | (with_reducible refine wpList_slice_run rfl 22 _ _ none rfl _ _ _ none rfl rfl rfl (hsl _) ?_))
              go_ret3
              exact FIN.out _ hC2
  · rw [if_neg he] at htl
    rw [htl]
    clear htl hf hr hb ht
    go_enter Try.func20, Try.ntmps20
    go_wp2_with (go_at_call 18; refine h17.mono ?_; rintro e w1 ⟨rfl, hC1⟩)
    go_ret3
    exact TLPost.none hC1 rfl

set_option maxHeartbeats 1000000 in
theorem same_any (w : World) (A B : Option Addr) (c d : Nat) (l : List Int) (hr : ReadsI w .u64 A l) (hr2 : ReadsI w .u64 B l) (hl : l.length ≤ 200000000000000) : Calls Try.prog 21 #[.slice A l.length c, .slice B l.length d] w fun e w' => e = .returned (.bool true) ∧ Chg (fun _ => False) w w' := by
  have HR := Lib.hid hr
  have HR2 := Lib.hid hr2
  clear hr hr2
  go_enter Try.func21, Try.ntmps21
  go_wp2
  go_loopw [13] (fun i wr => ∃ k n : Nat, k ≤ l.length ∧ i = .int .i64 k ∧ wr = w.drewN n) (fun i _ => l.length - (intOf i).toNat)
  case atStart => exact ⟨0, 0, by omega, rfl, rfl⟩
  case round =>
    obtain ⟨k, n, hk, rfl, rfl⟩ := hrel
    by_cases hk2 : k < l.length
    · obtain ⟨g, o, rfl, hx⟩ := HR.out.plain (by rintro rfl; simp at hk2)
      obtain ⟨g2, o2, rfl, hx2⟩ := HR2.out.plain (by rintro rfl; simp at hk2)
      have c1 := hx k hk2
      have c2 := hx2 k hk2
      obtain ⟨x, hxe⟩ : ∃ x, x = l.getD k 0 := ⟨_, rfl⟩
      rw [← hxe] at c1 c2
      clear hx hx2 hxe
      go_wp2
      go_quiet (fail)
      go_wp2
      go_roundw
      case rel => exact ⟨k + 1, _, by omega, by go_num, rfl⟩
      case measure => simp [intOf]; omega
    · have ej : k = l.length := by omega
      subst ej
      go_wp2
      go_ret
      exact ⟨rfl, (Chg.refl _ _).drewN _⟩
end Go.Proofs.Ytcdbchdlenkdgaa
