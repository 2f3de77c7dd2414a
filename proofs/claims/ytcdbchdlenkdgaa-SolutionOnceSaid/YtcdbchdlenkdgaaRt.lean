/- Compact numbers: the document's Take. -/
import Derived.Test.YtcdbchdlenkdgaaNm
set_option linter.unusedVariables false
set_option linter.unusedSimpArgs false
namespace Go.Proofs.Ytcdbchdlenkdgaa
open Go.RowKit Go.Ps

def RTkPost (l : List Int) (w : World) (e : Ending) (w' : World) : Prop := e = .returned (.tuple #[.int .u64 (tk l).1, .int .i64 (tk l).2.1, .int .i64 (tk l).2.2]) ∧ Chg (fun _ => False) w w'
theorem drop_step (l : List Int) (k j : Nat) (hj : j < k) (hk : k ≤ l.length) : (l.take k).drop j = l.getD j 0 :: (l.take k).drop (j + 1) := by
  have hl : j < (l.take k).length := by rw [List.length_take]; omega
  rw [List.drop_eq_getElem_cons hl]
  congr 1
  rw [List.getElem_take, List.getD_eq_getElem?_getD, List.getElem?_eq_getElem (by omega)]
  rfl
theorem or8_step (V b : Int) (h0 : 0 ≤ V) (h1 : V < 72057594037927936) (hb : 0 ≤ b ∧ b ≤ 255) : bits .or .u64 (V * 256) b = b + 256 * V := by
  rw [bits_join .u64 64 (by decide) wraps_u64 8 (V * 256) b (by omega) (by omega) (by omega) (by omega) (by omega) (by omega)]
  omega
theorem drop_lt {l : List Int} (hb : Bytes l) (k j : Nat) (hjk : k ≤ j + 7) : 0 ≤ valB ((l.take k).drop j) ∧ valB ((l.take k).drop j) < 72057594037927936 := by
  refine ⟨valB_nonneg ((hb.take k).drop j), ?_⟩
  have h1 := valB_lt ((hb.take k).drop j)
  have hl : ((l.take k).drop j).length ≤ 7 := by rw [List.length_drop, List.length_take]; omega
  generalize ((l.take k).drop j).length = m at *
  have : m = 0 ∨ m = 1 ∨ m = 2 ∨ m = 3 ∨ m = 4 ∨ m = 5 ∨ m = 6 ∨ m = 7 := by omega
  rcases this with rfl | rfl | rfl | rfl | rfl | rfl | rfl | rfl <;> (simp at h1; omega)
theorem clen_nine (b : Int) (h : ¬ 9 < clen b) (h3 : ¬ b % 4 = 3) : clen b ≤ 4 := by
  revert h
  unfold clen
  repeat' split
  all_goals omega
def Str (w : World) (A : Option Addr) (bs : List Int) (c : Nat) : Prop := (convert 22 9 (.slice A bs.length c)).run Try.prog w = .ok (.string (strOf bs)) w
theorem str_of {w : World} {A : Option Addr} {bs : List Int} (c : Nat) (h : ReadsI w .u8 A bs) : Str w A bs c := run_str (P := Try.prog) Try.underlying22 Try.underlying5 Try.underlying9 c h
theorem reads_take {w : World} {g o : Nat} {l : List Int} (hx : ∀ i, i < l.length → w.cell? ⟨g, o + i, none⟩ = some (.int .u8 (l.getD i 0))) (k : Nat) (hk : k ≤ l.length) : ReadsI w .u8 (some ⟨g, o, none⟩) (l.take k) := fun _ => ⟨_, rfl, fun i hi => by
  rw [List.length_take] at hi
  rw [add_plain, hx i (by omega)]
  congr 2
  rw [List.getD_eq_getElem?_getD, List.getD_eq_getElem?_getD, List.getElem?_take, if_pos (by omega)]⟩

set_option maxRecDepth 20000 in
set_option maxHeartbeats 4000000 in
theorem rtake_any (w : World) (A : Option Addr) (c : Nat) (l : List Int) (hr : ReadsI w .u8 A l) (hb : Bytes l) (hl : l.length ≤ 1000000000000000) (hcap : l.length ≤ c) : Calls Try.prog 18 #[.slice A l.length c] w (RTkPost l w) := by
  by_cases hne : l.length = 0
  · have e : tk l = (0, 0, 5) := by unfold tk; rw [if_pos hne]
    have fin : RTkPost l w (.returned (.tuple #[.int .u64 0, .int .i64 0, .int .i64 5])) w := by
      refine ⟨by rw [e], Chg.refl _ _⟩
    clear e hb hr
    go_enter Try.func18, Try.ntmps18
    go_wp2
    go_ret3
    exact fin
  · obtain ⟨g, o, rfl, hx⟩ := hr.plain (by rintro rfl; simp at hne)
    have hb0 : 0 ≤ l.getD 0 0 ∧ l.getD 0 0 ≤ 255 := Bytes.getD hb 0
    have c0 : w.cell? ⟨g, o, none⟩ = some (.int .u8 (l.getD 0 0)) := hx 0 (by omega)
    obtain ⟨b0, hb0e⟩ : ∃ b, b = l.getD 0 0 := ⟨_, rfl⟩
    rw [← hb0e] at hb0 c0
    have h3 := and3 b0 hb0.1 hb0.2
    have hne' : 0 < l.length := by omega
    have hneb : ((l.length : Int) == 0) = false := by rw [beq_eq_false_iff_ne]; omega
    have hsz := fun W => rsize_any b0 W hb0
    obtain ⟨k, hk⟩ : ∃ k, k = clen b0 := ⟨_, rfl⟩
    rw [← hk] at hsz
    by_cases hk9 : 9 < k
    · have fin : RTkPost l w (.returned (.tuple #[.int .u64 0, .int .i64 0, .int .i64 2])) w := ⟨by rw [tk_long hne' (by rw [← hb0e, ← hk]; exact hk9)], Chg.refl _ _⟩
      clear h3 hk hb0e hx hr hb hne
      go_enter Try.func18, Try.ntmps18
      go_wp2_with (go_at_call 45; refine (hsz _).mono ?_; rintro e w' ⟨rfl, rfl⟩)
      go_ret3
      exact fin
    · by_cases hk2 : l.length < k
      · have fin : RTkPost l w (.returned (.tuple #[.int .u64 0, .int .i64 0, .int .i64 5])) w := ⟨by rw [tk_short hne' (by rw [← hb0e, ← hk]; omega) (by rw [← hb0e, ← hk]; exact hk2)], Chg.refl _ _⟩
        clear h3 hk hb0e hx hr hb hne
        go_enter Try.func18, Try.ntmps18
        go_wp2_with (go_at_call 45; refine (hsz _).mono ?_; rintro e w' ⟨rfl, rfl⟩)
        go_ret3
        exact fin
      · obtain ⟨m, hm⟩ : ∃ m, m = b0 % 4 := ⟨_, rfl⟩
        rw [← hm] at h3
        have hkp : 0 < k := by rw [hk]; exact clen_pos b0
        have HX := Lib.hid hx
        have HB := Lib.hid hb
        have HE := Lib.hid hb0e
        have HK := Lib.hid hk
        have HT := Lib.hid (reads_take hx k (by omega))
        have HTC := Lib.hid (str_of c (reads_take hx k (by omega)))
        have hkl : k ≤ l.length := by omega
        have htl : (l.take k).length = k := by rw [List.length_take]; omega
        by_cases hm3 : m = 3
        · subst hm3
          have hk5 : 5 ≤ k := by rw [hk]; unfold clen; rw [if_neg (by omega), if_neg (by omega), if_neg (by omega)]; omega
          have raw : valB ((l.take k).drop 1) = rawN l k := by unfold rawN; rw [← HE.out, if_pos (by omega)]
          clear hk hb0e hx hr hb hne hm
          go_enter Try.func18, Try.ntmps18
          go_wp2_with (go_at_call 45; refine (hsz _).mono ?_; rintro e w' ⟨rfl, rfl⟩)
          clear hsz
          go_loop [6, 8] (fun x i => ∃ (j : Nat), 1 ≤ j ∧ j ≤ k ∧ i = .int .i64 ((j : Int) - 1) ∧ x = .int .u64 (valB ((l.take k).drop j))) (fun _ i => (intOf i + 1).toNat)
          case atStart => exact ⟨k, by omega, Nat.le_refl _, by go_num, by rw [List.drop_of_length_le (by omega)]; rfl⟩
          case round =>
            obtain ⟨j, hj1, hj, rfl, rfl⟩ := hrel
            by_cases hj2 : 1 < j
            · obtain ⟨i, rfl⟩ : ∃ i, j = i + 1 := ⟨j - 1, by omega⟩
              have e1 : ((i + 1 : Nat) : Int) - 1 = i := by omega
              rw [e1]
              obtain ⟨hV0, hV1⟩ := drop_lt HB.out k (i + 1) (by omega)
              have hstep := drop_step l k i (by omega) hkl
              have hcell := HX.out i (by omega)
              have hcb := Bytes.getD HB.out i
              obtain ⟨b, hbe⟩ : ∃ b, b = l.getD i 0 := ⟨_, rfl⟩
              obtain ⟨V, hV⟩ : ∃ V, V = valB ((l.take k).drop (i + 1)) := ⟨_, rfl⟩
              have hval : valB ((l.take k).drop i) = b + 256 * V := by rw [hstep, hV, hbe]; rfl
              rw [← hbe] at hcell hcb
              rw [← hV] at hV0 hV1 ⊢
              have hor := or8_step V b hV0 hV1 hcb
              have hil : i < l.length := by omega
              have HV := Lib.hid hval
              clear hval hV hbe hstep e1 raw htl
              go_wp2
              go_round
              case rel => exact ⟨i, by omega, by omega, by go_num, by rw [HV.out]⟩
              case measure => simp [intOf]
            · have ej : j = 1 := by omega
              subst ej
              obtain ⟨V, hV⟩ : ∃ V, V = valB ((l.take k).drop 1) := ⟨_, rfl⟩
              obtain ⟨hV0, hV1⟩ : U64' V := by
                rw [hV]
                refine ⟨valB_nonneg ((HB.out.take k).drop 1), ?_⟩
                have h1 := valB_lt ((HB.out.take k).drop 1)
                have h2 := pow_le8 ((l.take k).drop 1).length (by rw [List.length_drop, htl]; omega)
                omega
              rw [← hV] at raw ⊢
              have hu : U64' (V) := ⟨by omega, by omega⟩
              obtain ⟨fin1, fin2⟩ := tk_main hne' (by rw [← HE.out]; exact HK.out) (by omega) hkl raw
              have hiff : csz (V) = k ↔ enc (V) = l.take k := by
                have h := enc_iff HB.out hne' (by rw [← HE.out, ← HK.out]; exact hkl) (by rw [← HE.out, ← HK.out]; omega)
                rw [← HE.out, ← HK.out, ← raw] at h
                exact h
              have hnum := fun W => number_any (V) W hu
              obtain ⟨x, hx⟩ : ∃ x, x = V := ⟨_, rfl⟩
              rw [← hx] at fin1 fin2 hiff hnum
              have hq : ∀ W, Chg (fun _ => False) w W → Calls Try.prog 23 #[.int .u64 x] W (fun e w2 => ∃ A1 c1, e = .returned (.slice A1 (csz x) c1) ∧ (convert 22 9 (.slice A1 (csz x) c1)).run Try.prog w2 = .ok (.string (strOf (enc x))) w2 ∧ (convert 22 9 (.slice (some ⟨g, o, none⟩) k c)).run Try.prog w2 = .ok (.string (strOf (l.take k))) w2 ∧ Chg (fun _ => False) w w2) := fun W hW => by
                refine (hnum W).mono ?_
                rintro e w2 ⟨v, he, hO, hC, hF⟩
                obtain ⟨A1, c1, hv, hr1, _, _⟩ := hO.form
                rw [enc_length] at hv
                have h1 := str_of c1 hr1
                have h2 := str_of c (HT.out.chg (hW.trans hC (fun _ _ => id)) (fun _ _ => id))
                unfold Str at h1 h2
                rw [enc_length] at h1
                rw [htl] at h2
                exact ⟨A1, c1, by rw [he, hv], h1, h2, hW.trans hC (fun _ _ => id)⟩
              have hinj := strOf_inj (l := enc x) (m := l.take k) (enc_bytes x) (HB.out.take k)
              have hqd := hq w.drew ((Chg.refl _ _).drew)
              have hkc : k ≤ c := by omega
              have s0 : (convert 22 9 (.slice (some ⟨g, o, none⟩) k c)).run Try.prog w.drew = .ok (.string (strOf (l.take k))) w.drew := by
                have h2 := str_of c (HT.out.chg ((Chg.refl (fun _ => False) w).drew) (fun _ _ => id))
                unfold Str at h2
                rwa [htl] at h2
              have hx2 : V = x := hx.symm
              by_cases hc : csz x = k
              · have hen := hiff.1 hc
                have fin := fin1 hc
                have FIN : Hid (∀ w2, Chg (fun _ => False) w w2 → RTkPost l w (.returned (.tuple #[.int .u64 x, .int .i64 k, .int .i64 0])) w2) := Lib.hid (fun w2 h => ⟨by rw [fin], h⟩)
                rw [hen, hc] at hqd
                obtain ⟨S, hS⟩ : ∃ S, S = strOf (l.take k) := ⟨_, rfl⟩
                rw [← hS] at hqd s0
                clear fin1 fin2 hiff hnum hinj hq fin hen hc hS hV hu raw h3 htl
                subst hx; clear hx2
                go_wp2
                go_region_with (first | (go_at_call 23; refine hqd.mono ?_; rintro e w2 ⟨A1, c1, rfl, s1, s2, hC⟩))
                all_goals
                  go_wp2
                  go_ret3
                  exact FIN.out _ hC
              · have hen : ¬ enc x = l.take k := fun h => hc (hiff.2 h)
                have fin := fin2 hc
                have FIN : Hid (∀ w2, Chg (fun _ => False) w w2 → RTkPost l w (.returned (.tuple #[.int .u64 0, .int .i64 0, .int .i64 2])) w2) := Lib.hid (fun w2 h => ⟨by rw [fin], h⟩)
                have hsn : ¬ (strOf (enc x)).toList = (strOf (l.take k)).toList := fun h => hen (hinj.1 h)
                obtain ⟨S, hS⟩ : ∃ S, S = strOf (l.take k) := ⟨_, rfl⟩
                obtain ⟨T, hT⟩ : ∃ S, S = strOf (enc x) := ⟨_, rfl⟩
                obtain ⟨kx, hkx⟩ : ∃ kx, kx = csz x := ⟨_, rfl⟩
                rw [← hS, ← hT, ← hkx] at hqd
                rw [← hS] at s0 hsn
                rw [← hT] at hsn
                have hsb : (T.toList == S.toList) = false := by rw [beq_eq_false_iff_ne]; exact hsn
                clear fin1 fin2 hiff hnum hinj hq fin hen hc hS hT hkx hV hu raw h3 htl hsn
                subst hx; clear hx2
                go_wp2
                go_region_with (first | (go_at_call 23; refine hqd.mono ?_; rintro e w2 ⟨A1, c1, rfl, s1, s2, hC⟩))
                all_goals
                  go_wp2
                  go_ret3
                  exact FIN.out _ hC
        · have hm3b : (m == 3) = false := by simpa using hm3
          have hk4 : k ≤ 4 := by rw [hk]; exact clen_nine b0 (by rw [← hk]; exact hk9) (by omega)
          have raw : valB ((l.take k).drop 0) / 4 = rawN l k := by unfold rawN; rw [← HE.out, if_neg (by omega), List.drop_zero]
          clear hk hb0e hx hr hb hne
          go_enter Try.func18, Try.ntmps18
          go_wp2_with (go_at_call 45; refine (hsz _).mono ?_; rintro e w' ⟨rfl, rfl⟩)
          clear hsz
          go_loop [6, 8] (fun x i => ∃ (j : Nat), 0 ≤ j ∧ j ≤ k ∧ i = .int .i64 ((j : Int) - 1) ∧ x = .int .u64 (valB ((l.take k).drop j))) (fun _ i => (intOf i + 1).toNat)
          case atStart => exact ⟨k, by omega, Nat.le_refl _, by go_num, by rw [List.drop_of_length_le (by omega)]; rfl⟩
          case round =>
            obtain ⟨j, hj1, hj, rfl, rfl⟩ := hrel
            by_cases hj2 : 0 < j
            · obtain ⟨i, rfl⟩ : ∃ i, j = i + 1 := ⟨j - 1, by omega⟩
              have e1 : ((i + 1 : Nat) : Int) - 1 = i := by omega
              rw [e1]
              obtain ⟨hV0, hV1⟩ := drop_lt HB.out k (i + 1) (by omega)
              have hstep := drop_step l k i (by omega) hkl
              have hcell := HX.out i (by omega)
              have hcb := Bytes.getD HB.out i
              obtain ⟨b, hbe⟩ : ∃ b, b = l.getD i 0 := ⟨_, rfl⟩
              obtain ⟨V, hV⟩ : ∃ V, V = valB ((l.take k).drop (i + 1)) := ⟨_, rfl⟩
              have hval : valB ((l.take k).drop i) = b + 256 * V := by rw [hstep, hV, hbe]; rfl
              rw [← hbe] at hcell hcb
              rw [← hV] at hV0 hV1 ⊢
              have hor := or8_step V b hV0 hV1 hcb
              have hil : i < l.length := by omega
              have HV := Lib.hid hval
              clear hval hV hbe hstep e1 raw htl
              go_wp2
              go_round
              case rel => exact ⟨i, by omega, by omega, by go_num, by rw [HV.out]⟩
              case measure => simp [intOf]
            · have ej : j = 0 := by omega
              subst ej
              obtain ⟨V, hV⟩ : ∃ V, V = valB ((l.take k).drop 0) := ⟨_, rfl⟩
              obtain ⟨hV0, hV1⟩ : U64' V := by
                rw [hV]
                refine ⟨valB_nonneg ((HB.out.take k).drop 0), ?_⟩
                have h1 := valB_lt ((HB.out.take k).drop 0)
                have h2 := pow_le8 ((l.take k).drop 0).length (by rw [List.length_drop, htl]; omega)
                omega
              rw [← hV] at raw ⊢
              have hu : U64' (V / 4) := ⟨by omega, by omega⟩
              obtain ⟨fin1, fin2⟩ := tk_main hne' (by rw [← HE.out]; exact HK.out) (by omega) hkl raw
              have hiff : csz (V / 4) = k ↔ enc (V / 4) = l.take k := by
                have h := enc_iff HB.out hne' (by rw [← HE.out, ← HK.out]; exact hkl) (by rw [← HE.out, ← HK.out]; omega)
                rw [← HE.out, ← HK.out, ← raw] at h
                exact h
              have hnum := fun W => number_any (V / 4) W hu
              obtain ⟨x, hx⟩ : ∃ x, x = V / 4 := ⟨_, rfl⟩
              rw [← hx] at fin1 fin2 hiff hnum
              have hq : ∀ W, Chg (fun _ => False) w W → Calls Try.prog 23 #[.int .u64 x] W (fun e w2 => ∃ A1 c1, e = .returned (.slice A1 (csz x) c1) ∧ (convert 22 9 (.slice A1 (csz x) c1)).run Try.prog w2 = .ok (.string (strOf (enc x))) w2 ∧ (convert 22 9 (.slice (some ⟨g, o, none⟩) k c)).run Try.prog w2 = .ok (.string (strOf (l.take k))) w2 ∧ Chg (fun _ => False) w w2) := fun W hW => by
                refine (hnum W).mono ?_
                rintro e w2 ⟨v, he, hO, hC, hF⟩
                obtain ⟨A1, c1, hv, hr1, _, _⟩ := hO.form
                rw [enc_length] at hv
                have h1 := str_of c1 hr1
                have h2 := str_of c (HT.out.chg (hW.trans hC (fun _ _ => id)) (fun _ _ => id))
                unfold Str at h1 h2
                rw [enc_length] at h1
                rw [htl] at h2
                exact ⟨A1, c1, by rw [he, hv], h1, h2, hW.trans hC (fun _ _ => id)⟩
              have hinj := strOf_inj (l := enc x) (m := l.take k) (enc_bytes x) (HB.out.take k)
              have hqd := hq w.drew ((Chg.refl _ _).drew)
              have hkc : k ≤ c := by omega
              have s0 : (convert 22 9 (.slice (some ⟨g, o, none⟩) k c)).run Try.prog w.drew = .ok (.string (strOf (l.take k))) w.drew := by
                have h2 := str_of c (HT.out.chg ((Chg.refl (fun _ => False) w).drew) (fun _ _ => id))
                unfold Str at h2
                rwa [htl] at h2
              have hx2 : V / 4 = x := hx.symm
              by_cases hc : csz x = k
              · have hen := hiff.1 hc
                have fin := fin1 hc
                have FIN : Hid (∀ w2, Chg (fun _ => False) w w2 → RTkPost l w (.returned (.tuple #[.int .u64 x, .int .i64 k, .int .i64 0])) w2) := Lib.hid (fun w2 h => ⟨by rw [fin], h⟩)
                rw [hen, hc] at hqd
                obtain ⟨S, hS⟩ : ∃ S, S = strOf (l.take k) := ⟨_, rfl⟩
                rw [← hS] at hqd s0
                clear fin1 fin2 hiff hnum hinj hq fin hen hc hS hV hu raw h3 htl
                clear hx
                go_wp2
                go_region_with (first | (go_at_call 23; refine hqd.mono ?_; rintro e w2 ⟨A1, c1, rfl, s1, s2, hC⟩))
                all_goals
                  go_wp2
                  go_ret3
                  exact FIN.out _ hC
              · have hen : ¬ enc x = l.take k := fun h => hc (hiff.2 h)
                have fin := fin2 hc
                have FIN : Hid (∀ w2, Chg (fun _ => False) w w2 → RTkPost l w (.returned (.tuple #[.int .u64 0, .int .i64 0, .int .i64 2])) w2) := Lib.hid (fun w2 h => ⟨by rw [fin], h⟩)
                have hsn : ¬ (strOf (enc x)).toList = (strOf (l.take k)).toList := fun h => hen (hinj.1 h)
                obtain ⟨S, hS⟩ : ∃ S, S = strOf (l.take k) := ⟨_, rfl⟩
                obtain ⟨T, hT⟩ : ∃ S, S = strOf (enc x) := ⟨_, rfl⟩
                obtain ⟨kx, hkx⟩ : ∃ kx, kx = csz x := ⟨_, rfl⟩
                rw [← hS, ← hT, ← hkx] at hqd
                rw [← hS] at s0 hsn
                rw [← hT] at hsn
                have hsb : (T.toList == S.toList) = false := by rw [beq_eq_false_iff_ne]; exact hsn
                clear fin1 fin2 hiff hnum hinj hq fin hen hc hS hT hkx hV hu raw h3 htl hsn
                clear hx
                go_wp2
                go_region_with (first | (go_at_call 23; refine hqd.mono ?_; rintro e w2 ⟨A1, c1, rfl, s1, s2, hC⟩))
                all_goals
                  go_wp2
                  go_ret3
                  exact FIN.out _ hC
end Go.Proofs.Ytcdbchdlenkdgaa
