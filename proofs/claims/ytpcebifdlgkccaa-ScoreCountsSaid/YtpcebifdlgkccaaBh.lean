/- Scores: the reference's naturals, added and multiplied. -/
import Derived.Test.YtpcebifdlgkccaaBg
set_option linter.unusedVariables false
set_option linter.unusedSimpArgs false
namespace Go.Proofs.Ytpcebifdlgkccaa
open Go.RowKit Go.Ps

theorem trimL_last {l : List Int} (h : trimL l = l) (hne : 0 < l.length) : l.getD (l.length - 1) 0 ≠ 0 := by
  induction l with
  | nil => simp at hne
  | cons x l ih =>
    have ht := trimL_tail h
    by_cases hl : l.length = 0
    · obtain rfl := List.eq_nil_of_length_eq_zero hl
      simp only [List.length_cons, List.length_nil, Nat.zero_add, Nat.sub_self, List.getD_cons_zero]
      intro e
      subst e
      simp [trimL] at h
    · have := ih ht (by omega)
      simp only [List.length_cons, Nat.add_sub_cancel]
      obtain ⟨k, hk⟩ : ∃ k, l.length = k + 1 := ⟨l.length - 1, by omega⟩
      rw [hk] at this ⊢
      simpa using this
theorem formed_any (w : World) (A : Option Addr) (c : Nat) (l : List Int) (hr : ReadsI w .u32 A l) (ht : trimL l = l) (hl : l.length ≤ 400) : Calls Try.prog 24 #[.slice A l.length c] w fun e w' => e = .returned (.bool true) ∧ w = w' := by
  by_cases h0 : l.length = 0
  · obtain rfl := List.eq_nil_of_length_eq_zero h0
    simp only [List.length_nil]
    clear hr ht h0
    go_enter Try.func24, Try.ntmps24
    go_wp2
    go_ret
    exact ⟨by simp, rfl⟩
  · have hla := trimL_last ht (by omega)
    obtain ⟨g, o, rfl, hx⟩ := hr.plain (by rintro rfl; simp at h0)
    have hc := hx (l.length - 1) (by omega)
    obtain ⟨y, hy⟩ : ∃ y, y = l.getD (l.length - 1) 0 := ⟨_, rfl⟩
    rw [← hy] at hc hla
    obtain ⟨n, hn⟩ : ∃ n, n = l.length := ⟨_, rfl⟩
    rw [← hn] at hc h0 hl ⊢
    have hyb : (y != 0) = true := by simpa using hla
    have hnb : ((n : Int) == 0) = false := by simp; omega
    have hn1 : 1 ≤ n := by omega
    clear hr ht hx hla hy hn h0
    go_enter Try.func24, Try.ntmps24
    go_wp2
    go_ret
    exact ⟨by simp, rfl⟩
theorem bounded_any (w : World) (A : Option Addr) (n c : Nat) (hl : n ≤ 400) : Calls Try.prog 25 #[.slice A n c] w fun e w' => e = .returned (.tuple #[.slice A n c, .int .i64 0]) ∧ w = w' := by
  go_enter Try.func25, Try.ntmps25
  go_wp2
  go_ret2
  exact ⟨rfl, rfl⟩
theorem add_step {a b : List Int} {k : Nat} {acc : List Int} {C xa xb dg C' : Int} (hv : valN acc + 4294967296 ^ k * C = valN (a.take k) + valN (b.take k)) (hk : acc.length = k) (hs : C + xa + xb = dg + 4294967296 * C')
    (ha : valN (a.take (k + 1)) = valN (a.take k) + 4294967296 ^ k * xa) (hb : valN (b.take (k + 1)) = valN (b.take k) + 4294967296 ^ k * xb) :
    valN (acc ++ [dg]) + 4294967296 ^ (k + 1) * C' = valN (a.take (k + 1)) + valN (b.take (k + 1)) := by
  rw [valN_append, hk, ha, hb, Int.pow_succ]
  simp only [valN]
  have h2 : 4294967296 ^ k * (C + xa + xb) = 4294967296 ^ k * (dg + 4294967296 * C') := by rw [hs]
  grind
theorem take_val (l : List Int) (k : Nat) : valN (l.take (k + 1)) = valN (l.take k) + 4294967296 ^ k * l.getD k 0 := by
  by_cases h : k < l.length
  · exact valN_take_succ l k h
  · rw [valN_take_more l _ (by omega), valN_take_more l _ (by omega), List.getD_eq_getElem?_getD, List.getElem?_eq_none (by omega)]
    simp
set_option maxRecDepth 20000 in
set_option maxHeartbeats 4000000 in
theorem add27_any (w : World) (A B : Option Addr) (c d : Nat) (a b : List Int) (hra : ReadsI w .u32 A a) (hrb : ReadsI w .u32 B b) (hda : Dig a) (hdb : Dig b) (hla : a.length ≤ 400) (hlb : b.length ≤ 400) : Calls Try.prog 27 #[.slice A a.length c, .slice B b.length d] w (LP (valN a + valN b) w) := by
  have HRA := Lib.hid hra
  have HRB := Lib.hid hrb
  have HDA := Lib.hid hda
  have HDB := Lib.hid hdb
  obtain ⟨na, hna⟩ : ∃ n, n = a.length := ⟨_, rfl⟩
  obtain ⟨nb, hnb⟩ : ∃ n, n = b.length := ⟨_, rfl⟩
  rw [← hna] at hla ⊢
  rw [← hnb] at hlb ⊢
  have HNA := Lib.hid hna
  have HNB := Lib.hid hnb
  clear hra hrb hda hdb hna hnb
  go_enter Try.func27, Try.ntmps27
  go_wp2_with fail
  go_loopw [5, 6, 7] (fun v cr i wr => ∃ (k m : Nat) (acc : List Int) (C : Int) (A3 : Option Addr) (c3 : Nat), i = .int .i64 k ∧ cr = .int .u64 C ∧ 0 ≤ C ∧ C ≤ 1 ∧ k ≤ 401 ∧ v = .slice A3 m c3 ∧ Hid (m = k ∧ acc.length = k) ∧ Hid (valN acc + 4294967296 ^ k * C = valN (a.take k) + valN (b.take k)) ∧ Hid (Dig acc) ∧ Hid (New 52 .u32 w wr (.slice A3 m c3) acc) ∧ (k = 401 → C = 0)) (fun _ _ i _ => 402 - (intOf i).toNat)
  case atStart => exact ⟨0, 0, [], 0, none, 0, rfl, rfl, by omega, by omega, by omega, rfl, Lib.hid ⟨rfl, rfl⟩, Lib.hid (by simp [valN]), Lib.hid (fun x hx => by cases hx), Lib.hid (New.nil _ _ _), fun h => rfl⟩
  case round =>
    obtain ⟨k, m, acc, C, A3, c3, rfl, rfl, hC0, hC1, hk, rfl, hm, hv, hdig, hN, hlast⟩ := hrel
    obtain ⟨hmk, hak⟩ := hm.out
    by_cases hgo : k < na ∨ k < nb ∨ 0 < C
    · obtain ⟨xa, hxa⟩ : ∃ x, x = a.getD k 0 := ⟨_, rfl⟩
      obtain ⟨xb, hxb⟩ : ∃ x, x = b.getD k 0 := ⟨_, rfl⟩
      have hba := HDA.out.getD k
      have hbb := HDB.out.getD k
      rw [← hxa] at hba
      rw [← hxb] at hbb
      obtain ⟨dg, hdg⟩ : ∃ x, x = (C + xa + xb) % 4294967296 := ⟨_, rfl⟩
      obtain ⟨C', hC'⟩ : ∃ x, x = (C + xa + xb) / 4294967296 := ⟨_, rfl⟩
      have hvn := add_step (xa := xa) (xb := xb) (dg := dg) (C' := C') hv.out hak (by omega) (by rw [hxa]; exact take_val a k) (by rw [hxb]; exact take_val b k)
      have hdgb : 0 ≤ dg ∧ dg < 4294967296 := by omega
      have hCb : 0 ≤ C' ∧ C' ≤ 1 := by omega
      have hk400 : k ≤ 400 := by
        have := hlast
        rcases Nat.lt_or_ge 400 k with h | h
        · have : C = 0 := hlast (by omega)
          omega
        · exact h
      have hxa0 : ¬ k < na → xa = 0 := fun h => by rw [hxa, List.getD_eq_getElem?_getD, List.getElem?_eq_none (by rw [← HNA.out]; omega)]; rfl
      have hxb0 : ¬ k < nb → xb = 0 := fun h => by rw [hxb, List.getD_eq_getElem?_getD, List.getElem?_eq_none (by rw [← HNB.out]; omega)]; rfl
      have hla2 : k + 1 = 401 → C' = 0 := fun h => by
        have := hxa0 (by omega)
        have := hxb0 (by omega)
        omega
      obtain ⟨A4, c4, w4, hap, hN4⟩ := New.push hN.out Try.underlying47 info52 (by omega) dg (by omega) (by omega)
      have HREL := Lib.hid (show Hid (m + 1 = k + 1 ∧ (acc ++ [dg]).length = k + 1) ∧ Hid (valN (acc ++ [dg]) + 4294967296 ^ (k + 1) * C' = valN (a.take (k + 1)) + valN (b.take (k + 1))) ∧ Hid (Dig (acc ++ [dg])) ∧ Hid (New 52 .u32 w w4 (.slice A4 (m + 1) c4) (acc ++ [dg])) ∧ (k + 1 = 401 → C' = 0) from
        ⟨Lib.hid ⟨by omega, by simp; omega⟩, Lib.hid hvn, Lib.hid (hdig.out.append (fun x hx => by simp at hx; subst hx; exact hdgb)), Lib.hid hN4, hla2⟩)
      have hwd : IntKind.u32.wrap (C + xa + xb) = dg := by rw [wrap32u, hdg]
      have hdv : (C + xa + xb) / 4294967296 = C' := hC'.symm
      have cellA : k < na → ∃ g o, A = some ⟨g, o, none⟩ ∧ wr.cell? ⟨g, o + k, none⟩ = some (.int .u32 xa) := fun h => by
        obtain ⟨g, o, h1, h2⟩ := (HRA.out.chg hN.out.2.1 (fun _ _ => id)).plain (by rintro rfl; have := HNA.out; simp at this; omega)
        exact ⟨g, o, h1, by rw [hxa]; exact h2 k (by rw [← HNA.out]; exact h)⟩
      have cellB : k < nb → ∃ g o, B = some ⟨g, o, none⟩ ∧ wr.cell? ⟨g, o + k, none⟩ = some (.int .u32 xb) := fun h => by
        obtain ⟨g, o, h1, h2⟩ := (HRB.out.chg hN.out.2.1 (fun _ _ => id)).plain (by rintro rfl; have := HNB.out; simp at this; omega)
        exact ⟨g, o, h1, by rw [hxb]; exact h2 k (by rw [← HNB.out]; exact h)⟩
      obtain ⟨hba0, hba1⟩ := hba
      obtain ⟨hbb0, hbb1⟩ := hbb
      obtain ⟨hCb0, hCb1⟩ := hCb
      have HMK := Lib.hid hmk
      by_cases h1 : k < na
      · obtain ⟨ga, oa, hA, p1⟩ := cellA h1
        subst hA
        by_cases h2 : k < nb
        · obtain ⟨gb, ob, hB, p2⟩ := cellB h2
          subst hB
          clear hm hv hdig hN hvn hxa hxb hdg hC' hN4 hla2 hdgb cellA cellB hxa0 hxb0 hlast hgo hmk hak
          go_wp2_with (at_builtin; refine wpList_append_run rfl (.tmp 46) (.tmp 49) 47 rfl _ _ _ _ rfl rfl hap ?_)
          go_roundw
          case rel => exact ⟨k + 1, m + 1, acc ++ [dg], C', A4, c4, by go_num, rfl, hCb0, hCb1, by omega, rfl, HREL.out⟩
          case measure => simp [intOf]; omega
        · obtain rfl : xb = 0 := hxb0 h2
          rw [Int.add_zero] at hwd hdv
          clear hm hv hdig hN hvn hxa hxb hdg hC' hN4 hla2 hdgb cellA cellB hxa0 hxb0 hlast hgo hmk hak
          go_wp2_with (at_builtin; refine wpList_append_run rfl (.tmp 46) (.tmp 49) 47 rfl _ _ _ _ rfl rfl hap ?_)
          go_roundw
          case rel => exact ⟨k + 1, m + 1, acc ++ [dg], C', A4, c4, by go_num, rfl, hCb0, hCb1, by omega, rfl, HREL.out⟩
          case measure => simp [intOf]; omega
      · obtain rfl : xa = 0 := hxa0 h1
        rw [Int.add_zero] at hwd hdv
        by_cases h2 : k < nb
        · obtain ⟨gb, ob, hB, p2⟩ := cellB h2
          subst hB
          clear hm hv hdig hN hvn hxa hxb hdg hC' hN4 hla2 hdgb cellA cellB hxa0 hxb0 hlast hgo hmk hak
          go_wp2_with (at_builtin; refine wpList_append_run rfl (.tmp 46) (.tmp 49) 47 rfl _ _ _ _ rfl rfl hap ?_)
          go_roundw
          case rel => exact ⟨k + 1, m + 1, acc ++ [dg], C', A4, c4, by go_num, rfl, hCb0, hCb1, by omega, rfl, HREL.out⟩
          case measure => simp [intOf]; omega
        · obtain rfl : xb = 0 := hxb0 h2
          rw [Int.add_zero] at hwd hdv
          have hC : 0 < C := by omega
          clear hm hv hdig hN hvn hxa hxb hdg hC' hN4 hla2 hdgb cellA cellB hxa0 hxb0 hlast hgo hmk hak
          go_wp2_with (at_builtin; refine wpList_append_run rfl (.tmp 46) (.tmp 49) 47 rfl _ _ _ _ rfl rfl hap ?_)
          go_roundw
          case rel => exact ⟨k + 1, m + 1, acc ++ [dg], C', A4, c4, by go_num, rfl, hCb0, hCb1, by omega, rfl, HREL.out⟩
          case measure => simp [intOf]; omega
    · have h1 : ¬ k < na := by omega
      have h2 : ¬ k < nb := by omega
      obtain rfl : C = 0 := by omega
      have hval := hv.out
      rw [valN_take_more a k (by rw [← HNA.out]; omega), valN_take_more b k (by rw [← HNB.out]; omega)] at hval
      simp only [Int.mul_zero, Int.add_zero] at hval
      obtain ⟨_, _, he, hr3⟩ := New.form hN.out
      cases he
      have htr := trim_any wr A3 c3 acc hr3 hdig.out (by omega) (New.cap hN.out).2
      rw [hval] at htr
      have HT := Lib.hid htr
      have HC := Lib.hid hN.out.2.1
      clear hm hv hdig hN hval hr3 htr hlast hgo hmk hak
      go_wp2_with fail
      refine HT.out.mono ?_
      rintro e w1 ⟨v, mm, rfl, hN, h3, h4, h5⟩
      have HF := Lib.hid (show LP (valN a + valN b) w (.returned v) w1 from ⟨v, mm, rfl, New.after HC.out hN, h3, h4, h5⟩)
      clear hN h3 h4 h5
      go_wp2
      go_ret
      exact HF.out
end Go.Proofs.Ytpcebifdlgkccaa
