/- Compact numbers: Take. -/
import Derived.Test.YtcdbchdlenkdgaaSz
set_option linter.unusedVariables false
set_option linter.unusedSimpArgs false
namespace Go.Proofs.Ytcdbchdlenkdgaa
open Go.RowKit Go.Ps

theorem _root_.Go.Ps.ReadsI.plain {w : World} {q : IntKind} {A : Option Addr} {l : List Int} (h : ReadsI w q A l) (hne : l ≠ []) : ∃ g o, A = some ⟨g, o, none⟩ ∧ ∀ i, i < l.length → w.cell? ⟨g, o + i, none⟩ = some (.int q (l.getD i 0)) := by
  obtain ⟨a, rfl, hx⟩ := h hne
  have h0 := hx 0 (List.length_pos_iff.2 hne)
  have e := plain_addr h0 rfl
  refine ⟨a.block, a.off, by rw [← e], fun i hi => ?_⟩
  have := hx i hi
  rwa [e, add_plain] at this
theorem Bytes.getD {l : List Int} (h : Bytes l) (i : Nat) : 0 ≤ l.getD i 0 ∧ l.getD i 0 ≤ 255 := by
  rw [List.getD_eq_getElem?_getD]
  cases hg : l[i]? with
  | none => simp
  | some y => exact h y (List.mem_of_getElem? hg)
theorem pow256 (j : Nat) : (2 : Int) ^ (8 * j) = 256 ^ j := by rw [Int.pow_mul]; rfl
theorem take_snoc (l : List Int) (j : Nat) (h : j < l.length) : l.take (j + 1) = l.take j ++ [l.getD j 0] := by
  rw [List.take_add_one, List.getElem?_eq_getElem h, List.getD_eq_getElem?_getD, List.getElem?_eq_getElem h]
  rfl
theorem byte_pow (x : Int) (j : Nat) (hj : j < 8) (hx : 0 ≤ x ∧ x ≤ 255) : x * 256 ^ j < 18446744073709551616 := by
  have : j = 0 ∨ j = 1 ∨ j = 2 ∨ j = 3 ∨ j = 4 ∨ j = 5 ∨ j = 6 ∨ j = 7 := by omega
  rcases this with rfl | rfl | rfl | rfl | rfl | rfl | rfl | rfl <;> (simp; omega)
theorem lt_pow (V : Int) (j : Nat) (hj : j < 8) (h : V < 256 ^ j) : V < 18446744073709551616 := by
  have : j = 0 ∨ j = 1 ∨ j = 2 ∨ j = 3 ∨ j = 4 ∨ j = 5 ∨ j = 6 ∨ j = 7 := by omega
  rcases this with rfl | rfl | rfl | rfl | rfl | rfl | rfl | rfl <;> (simp at h; omega)
theorem pow_le8 (j : Nat) (hj : j ≤ 8) : (256 : Int) ^ j ≤ 18446744073709551616 := by
  have : j = 0 ∨ j = 1 ∨ j = 2 ∨ j = 3 ∨ j = 4 ∨ j = 5 ∨ j = 6 ∨ j = 7 ∨ j = 8 := by omega
  rcases this with rfl | rfl | rfl | rfl | rfl | rfl | rfl | rfl | rfl <;> simp
theorem or_step {bs : List Int} (hb : Bytes bs) (j : Nat) (hj : j < bs.length) (h8 : bs.length ≤ 8) :
    bits .or .u64 (valB (bs.take j)) (IntKind.u64.wrap (bs.getD j 0 * 2 ^ (8 * j))) = valB (bs.take (j + 1)) := by
  have hc := Bytes.getD hb j
  have h0 := valB_nonneg (hb.take j)
  have h1 := valB_lt (hb.take j)
  have hlen : (bs.take j).length = j := by rw [List.length_take]; omega
  rw [hlen] at h1
  have hlt := byte_pow _ j (by omega) hc
  have hpos : (0 : Int) ≤ 256 ^ j := Int.pow_nonneg (by decide)
  have hnn : 0 ≤ bs.getD j 0 * 256 ^ j := Int.mul_nonneg hc.1 hpos
  have hsum := lt_pow _ j (by omega) h1
  rw [take_snoc bs j hj, valB_snoc, hlen, pow256, u64_wrap_id _ hnn hlt]
  exact bits_join_low .u64 64 (by decide) wraps_u64 (8 * j) _ _ h0 (by rw [pow256]; exact h1) hsum hnn (by rw [pow256]; exact Int.mul_emod_left _ _) hlt

def TkPost (l : List Int) (w : World) (e : Ending) (w' : World) : Prop := e = .returned (.tuple #[.int .u64 (tk l).1, .int .i64 (tk l).2.1, .int .i64 (tk l).2.2]) ∧ ∃ n, w' = w.drewN n
theorem tk_long {l : List Int} (h0 : 0 < l.length) (h : 9 < clen (l.getD 0 0)) : tk l = (0, 0, 2) := by
  unfold tk
  rw [if_neg (by omega)]
  simp only
  rw [if_pos h]
theorem tk_short {l : List Int} (h0 : 0 < l.length) (h9 : clen (l.getD 0 0) ≤ 9) (h : l.length < clen (l.getD 0 0)) : tk l = (0, 0, 5) := by
  unfold tk
  rw [if_neg (by omega)]
  simp only
  rw [if_neg (by omega), if_pos h]
theorem tk_main {l : List Int} {k : Nat} {n : Int} (h0 : 0 < l.length) (hk : k = clen (l.getD 0 0)) (h9 : k ≤ 9) (h : k ≤ l.length) (hn : n = rawN l k) : (csz n = k → tk l = (n, (k : Int), 0)) ∧ (¬ csz n = k → tk l = (0, 0, 2)) := by
  unfold tk
  rw [if_neg (by omega)]
  simp only [← hk, ← hn]
  rw [if_neg (by omega), if_neg (by omega)]
  exact ⟨fun e => by rw [if_pos e], fun e => by rw [if_neg e]⟩
/-- What one mode's bytes are. -/
theorem mode_facts {w : World} {g o : Nat} {l : List Int} (hb : Bytes l) (hx : ∀ i, i < l.length → w.cell? ⟨g, o + i, none⟩ = some (.int .u8 (l.getD i 0))) (k f : Nat) (hf : f ≤ k) (hk : k ≤ l.length) (h9 : k - f ≤ 8) :
    ∃ bs : List Int, bs = (l.take k).drop f ∧ bs.length = k - f ∧ Bytes bs ∧ (∀ j, j < k - f → w.cell? ⟨g, o + f + j, none⟩ = some (.int .u8 (bs.getD j 0))) ∧ U64' (valB bs) := by
  have hl : ((l.take k).drop f).length = k - f := by rw [List.length_drop, List.length_take]; omega
  refine ⟨_, rfl, hl, (hb.take k).drop f, fun j hj => ?_, valB_nonneg ((hb.take k).drop f), ?_⟩
  · have := hx (f + j) (by omega)
    rw [Nat.add_assoc, this]
    congr 2
    rw [List.getD_eq_getElem?_getD, List.getD_eq_getElem?_getD, List.getElem?_drop, List.getElem?_take, if_pos (by omega)]
  · have h1 := valB_lt ((hb.take k).drop f)
    rw [hl] at h1
    have := pow_le8 (k - f) h9
    omega

set_option maxRecDepth 20000 in
set_option maxHeartbeats 4000000 in
theorem take_any (w : World) (A : Option Addr) (c : Nat) (l : List Int) (hr : ReadsI w .u8 A l) (hb : Bytes l) (hl : l.length ≤ 1000000000000000) (hcap : l.length ≤ c) : Calls Try.prog 17 #[.slice A l.length c] w (TkPost l w) := by
  by_cases hne : l.length = 0
  · have e : tk l = (0, 0, 5) := by unfold tk; rw [if_pos hne]
    have fin : TkPost l w (.returned (.tuple #[.int .u64 0, .int .i64 0, .int .i64 5])) w := by
      refine ⟨by rw [e], 0, rfl⟩
    clear e hb hr
    go_enter Try.func17, Try.ntmps17
    go_wp2
    go_ret3
    exact fin
  · obtain ⟨g, o, rfl, hx⟩ := hr.plain (by rintro rfl; simp at hne)
    have hb0 : 0 ≤ l.getD 0 0 ∧ l.getD 0 0 ≤ 255 := Bytes.getD hb 0
    have c0 : w.cell? ⟨g, o, none⟩ = some (.int .u8 (l.getD 0 0)) := hx 0 (by omega)
    obtain ⟨b0, hb0e⟩ : ∃ b, b = l.getD 0 0 := ⟨_, rfl⟩
    rw [← hb0e] at hb0 c0
    have h3 := and3 b0 hb0.1 hb0.2
    have hne' : 0 < l.length := by omega
    have hneb : ((l.length : Int) == 0) = false := by rw [beq_eq_false_iff_ne]; omega
    obtain ⟨m, hm⟩ : ∃ m, m = b0 % 4 := ⟨_, rfl⟩
    rw [← hm] at h3
    have hmc : m = 0 ∨ m = 1 ∨ m = 2 ∨ m = 3 := by omega
    have tlong : 9 < clen b0 → TkPost l w (.returned (.tuple #[.int .u64 0, .int .i64 0, .int .i64 2])) = TkPost l w (.returned (.tuple #[.int .u64 (tk l).1, .int .i64 (tk l).2.1, .int .i64 (tk l).2.2])) := fun h => by rw [tk_long hne' (by rw [← hb0e]; exact h)]
    have tshort : clen b0 ≤ 9 → l.length < clen b0 → TkPost l w (.returned (.tuple #[.int .u64 0, .int .i64 0, .int .i64 5])) = TkPost l w (.returned (.tuple #[.int .u64 (tk l).1, .int .i64 (tk l).2.1, .int .i64 (tk l).2.2])) := fun h h2 => by rw [tk_short hne' (by rw [← hb0e]; exact h) (by rw [← hb0e]; exact h2)]
    have pst : ∀ n, TkPost l w (.returned (.tuple #[.int .u64 (tk l).1, .int .i64 (tk l).2.1, .int .i64 (tk l).2.2])) (w.drewN n) := fun n => ⟨rfl, n, rfl⟩
    have HM := Lib.hid hm
    have HB := Lib.hid hb0e
    have HX := Lib.hid hx
    have HBy := Lib.hid hb
    have TL := Lib.hid tlong
    have TS := Lib.hid tshort
    have PS := Lib.hid pst
    clear hm hb0e hx hr hb tlong tshort pst hne
    rcases hmc with rfl | rfl | rfl | rfl
    · have hk : clen b0 = 1 := by have := HM.out; unfold clen; rw [if_pos (by omega)]
      by_cases hk2 : l.length < 1
      · exact absurd hk2 (by omega)
      · obtain ⟨bs, hbs, hbl, hbb, hcs, hu⟩ := mode_facts HBy.out HX.out 1 0 (by omega) (by omega) (by omega)
        have raw : valB bs / 4 = rawN l 1 := by have h1 := HM.out; have h2 := HB.out; unfold rawN; rw [if_neg (by omega), hbs, List.drop_zero]
        obtain ⟨fin1, fin2⟩ := tk_main hne' (by rw [← HB.out]; exact hk.symm) (by omega) (by omega) raw
        have hu4 : U64' (valB bs / 4) := by obtain ⟨h1, h2⟩ := hu; exact ⟨by omega, by omega⟩
        have hstep := fun j hj => or_step (bs := bs) hbb j (hbl ▸ hj) (by omega)
        have hsz := fun W => size_any (valB bs / 4) W hu4
        have htk : bs.take 1 = bs := List.take_of_length_le (by omega)
        have F1 := Lib.hid fin1
        have F2 := Lib.hid fin2
        have HS := Lib.hid hstep
        have HC := Lib.hid hcs
        have HT := Lib.hid htk
        have HBB := Lib.hid hbb
        simp only [Nat.sub_zero, Nat.add_zero] at HC HS hbl
        clear fin1 fin2 raw hu4 hu hbs hcs hstep hk htk hbb hbl
        go_enter Try.func17, Try.ntmps17
        go_wp2
        go_loop [8, 41] (fun x i => ∃ (j : Nat), j ≤ 1 ∧ i = .int .i64 j ∧ x = .int .u64 (valB (bs.take j))) (fun _ i => 1 - (intOf i).toNat)
        case atStart => exact ⟨0, by omega, rfl, rfl⟩
        case round =>
          obtain ⟨j, hj, rfl, rfl⟩ := hrel
          by_cases hj2 : j < 1
          · have e := HS.out j hj2
            obtain ⟨T, hT⟩ : ∃ T, T = valB (bs.take j) := ⟨_, rfl⟩
            have hcell := HC.out j hj2
            have hcb := Bytes.getD HBB.out j
            obtain ⟨c1, hc1⟩ : ∃ c, c = bs.getD j 0 := ⟨_, rfl⟩
            rw [← hT, ← hc1] at e
            rw [← hT]
            rw [← hc1] at hcell hcb
            clear hT hc1
            have HE := Lib.hid e
            clear e
            go_wp2
            go_round
            case rel => exact ⟨j + 1, by omega, by go_num, by rw [HE.out]⟩
            case measure => simp [intOf]; omega
          · have ej : j = 1 := by omega
            subst ej
            rw [HT.out]
            obtain ⟨V, hV⟩ : ∃ V, V = valB bs := ⟨_, rfl⟩
            rw [← hV] at F1 F2 hsz ⊢
            clear hV
            by_cases hc : csz (V / 4) = 1
            · have fin := PS.out 0
              rw [F1.out hc] at fin
              rw [hc] at hsz
              clear hc
              go_wp2_with (go_at_call 24; refine (hsz _).mono ?_; rintro e w' ⟨rfl, rfl⟩)
              go_ret3
              exact fin
            · have fin := PS.out 0
              rw [F2.out hc] at fin
              have hcn : ((csz (V / 4) : Int) != 1) = true := by simp; omega
              clear hc
              go_wp2_with (go_at_call 24; refine (hsz _).mono ?_; rintro e w' ⟨rfl, rfl⟩)
              go_ret3
              exact fin
    · have hk : clen b0 = 2 := by have := HM.out; unfold clen; rw [if_neg (by omega), if_pos (by omega)]
      by_cases hk2 : l.length < 2
      · have fin := PS.out 0
        rw [← TS.out (by omega) (by omega)] at fin
        clear hk
        go_enter Try.func17, Try.ntmps17
        go_wp2
        go_ret3
        exact fin
      · obtain ⟨bs, hbs, hbl, hbb, hcs, hu⟩ := mode_facts HBy.out HX.out 2 0 (by omega) (by omega) (by omega)
        have raw : valB bs / 4 = rawN l 2 := by have h1 := HM.out; have h2 := HB.out; unfold rawN; rw [if_neg (by omega), hbs, List.drop_zero]
        obtain ⟨fin1, fin2⟩ := tk_main hne' (by rw [← HB.out]; exact hk.symm) (by omega) (by omega) raw
        have hu4 : U64' (valB bs / 4) := by obtain ⟨h1, h2⟩ := hu; exact ⟨by omega, by omega⟩
        have hstep := fun j hj => or_step (bs := bs) hbb j (hbl ▸ hj) (by omega)
        have hsz := fun W => size_any (valB bs / 4) W hu4
        have htk : bs.take 2 = bs := List.take_of_length_le (by omega)
        have F1 := Lib.hid fin1
        have F2 := Lib.hid fin2
        have HS := Lib.hid hstep
        have HC := Lib.hid hcs
        have HT := Lib.hid htk
        have HBB := Lib.hid hbb
        simp only [Nat.sub_zero, Nat.add_zero] at HC HS hbl
        clear fin1 fin2 raw hu4 hu hbs hcs hstep hk htk hbb hbl
        go_enter Try.func17, Try.ntmps17
        go_wp2
        go_loop [8, 41] (fun x i => ∃ (j : Nat), j ≤ 2 ∧ i = .int .i64 j ∧ x = .int .u64 (valB (bs.take j))) (fun _ i => 2 - (intOf i).toNat)
        case atStart => exact ⟨0, by omega, rfl, rfl⟩
        case round =>
          obtain ⟨j, hj, rfl, rfl⟩ := hrel
          by_cases hj2 : j < 2
          · have e := HS.out j hj2
            obtain ⟨T, hT⟩ : ∃ T, T = valB (bs.take j) := ⟨_, rfl⟩
            have hcell := HC.out j hj2
            have hcb := Bytes.getD HBB.out j
            obtain ⟨c1, hc1⟩ : ∃ c, c = bs.getD j 0 := ⟨_, rfl⟩
            rw [← hT, ← hc1] at e
            rw [← hT]
            rw [← hc1] at hcell hcb
            clear hT hc1
            have HE := Lib.hid e
            clear e
            go_wp2
            go_round
            case rel => exact ⟨j + 1, by omega, by go_num, by rw [HE.out]⟩
            case measure => simp [intOf]; omega
          · have ej : j = 2 := by omega
            subst ej
            rw [HT.out]
            obtain ⟨V, hV⟩ : ∃ V, V = valB bs := ⟨_, rfl⟩
            rw [← hV] at F1 F2 hsz ⊢
            clear hV
            by_cases hc : csz (V / 4) = 2
            · have fin := PS.out 0
              rw [F1.out hc] at fin
              rw [hc] at hsz
              clear hc
              go_wp2_with (go_at_call 24; refine (hsz _).mono ?_; rintro e w' ⟨rfl, rfl⟩)
              go_ret3
              exact fin
            · have fin := PS.out 0
              rw [F2.out hc] at fin
              have hcn : ((csz (V / 4) : Int) != 2) = true := by simp; omega
              clear hc
              go_wp2_with (go_at_call 24; refine (hsz _).mono ?_; rintro e w' ⟨rfl, rfl⟩)
              go_ret3
              exact fin
    · have hk : clen b0 = 4 := by have := HM.out; unfold clen; rw [if_neg (by omega), if_neg (by omega), if_pos (by omega)]
      by_cases hk2 : l.length < 4
      · have fin := PS.out 0
        rw [← TS.out (by omega) (by omega)] at fin
        clear hk
        go_enter Try.func17, Try.ntmps17
        go_wp2
        go_ret3
        exact fin
      · obtain ⟨bs, hbs, hbl, hbb, hcs, hu⟩ := mode_facts HBy.out HX.out 4 0 (by omega) (by omega) (by omega)
        have raw : valB bs / 4 = rawN l 4 := by have h1 := HM.out; have h2 := HB.out; unfold rawN; rw [if_neg (by omega), hbs, List.drop_zero]
        obtain ⟨fin1, fin2⟩ := tk_main hne' (by rw [← HB.out]; exact hk.symm) (by omega) (by omega) raw
        have hu4 : U64' (valB bs / 4) := by obtain ⟨h1, h2⟩ := hu; exact ⟨by omega, by omega⟩
        have hstep := fun j hj => or_step (bs := bs) hbb j (hbl ▸ hj) (by omega)
        have hsz := fun W => size_any (valB bs / 4) W hu4
        have htk : bs.take 4 = bs := List.take_of_length_le (by omega)
        have F1 := Lib.hid fin1
        have F2 := Lib.hid fin2
        have HS := Lib.hid hstep
        have HC := Lib.hid hcs
        have HT := Lib.hid htk
        have HBB := Lib.hid hbb
        simp only [Nat.sub_zero, Nat.add_zero] at HC HS hbl
        clear fin1 fin2 raw hu4 hu hbs hcs hstep hk htk hbb hbl
        go_enter Try.func17, Try.ntmps17
        go_wp2
        go_loop [8, 41] (fun x i => ∃ (j : Nat), j ≤ 4 ∧ i = .int .i64 j ∧ x = .int .u64 (valB (bs.take j))) (fun _ i => 4 - (intOf i).toNat)
        case atStart => exact ⟨0, by omega, rfl, rfl⟩
        case round =>
          obtain ⟨j, hj, rfl, rfl⟩ := hrel
          by_cases hj2 : j < 4
          · have e := HS.out j hj2
            obtain ⟨T, hT⟩ : ∃ T, T = valB (bs.take j) := ⟨_, rfl⟩
            have hcell := HC.out j hj2
            have hcb := Bytes.getD HBB.out j
            obtain ⟨c1, hc1⟩ : ∃ c, c = bs.getD j 0 := ⟨_, rfl⟩
            rw [← hT, ← hc1] at e
            rw [← hT]
            rw [← hc1] at hcell hcb
            clear hT hc1
            have HE := Lib.hid e
            clear e
            go_wp2
            go_round
            case rel => exact ⟨j + 1, by omega, by go_num, by rw [HE.out]⟩
            case measure => simp [intOf]; omega
          · have ej : j = 4 := by omega
            subst ej
            rw [HT.out]
            obtain ⟨V, hV⟩ : ∃ V, V = valB bs := ⟨_, rfl⟩
            rw [← hV] at F1 F2 hsz ⊢
            clear hV
            by_cases hc : csz (V / 4) = 4
            · have fin := PS.out 0
              rw [F1.out hc] at fin
              rw [hc] at hsz
              clear hc
              go_wp2_with (go_at_call 24; refine (hsz _).mono ?_; rintro e w' ⟨rfl, rfl⟩)
              go_ret3
              exact fin
            · have fin := PS.out 0
              rw [F2.out hc] at fin
              have hcn : ((csz (V / 4) : Int) != 4) = true := by simp; omega
              clear hc
              go_wp2_with (go_at_call 24; refine (hsz _).mono ?_; rintro e w' ⟨rfl, rfl⟩)
              go_ret3
              exact fin
    · obtain ⟨q, hq⟩ : ∃ q : Nat, b0 / 4 = (q : Int) := ⟨(b0 / 4).toNat, by omega⟩
      have hk : clen b0 = 5 + q := by have := HM.out; unfold clen; rw [if_neg (by omega), if_neg (by omega), if_neg (by omega)]; omega
      by_cases hk9 : 4 < q
      · have fin := fun n => PS.out n
        rw [← TL.out (by omega)] at fin
        clear hk
        go_enter Try.func17, Try.ntmps17
        go_wp2
        go_quiet (fail)
        go_wp2
        go_ret3
        exact fin _
      · by_cases hk2 : l.length < 5 + q
        · have fin := fun n => PS.out n
          rw [← TS.out (by omega) (by omega)] at fin
          clear hk
          go_enter Try.func17, Try.ntmps17
          go_wp2
          go_quiet (fail)
          go_wp2
          go_ret3
          exact fin _
        · obtain ⟨bs, hbs, hbl, hbb, hcs, hu⟩ := mode_facts HBy.out HX.out (5 + q) 1 (by omega) (by omega) (by omega)
          have raw : valB bs = rawN l (5 + q) := by have h1 := HM.out; have h2 := HB.out; unfold rawN; rw [if_pos (by omega), hbs]
          obtain ⟨fin1, fin2⟩ := tk_main hne' (by rw [← HB.out]; exact hk.symm) (by omega) (by omega) raw
          have e4 : 5 + q - 1 = 4 + q := by omega
          rw [e4] at hbl hcs
          have hstep := fun j hj => or_step (bs := bs) hbb j (hbl ▸ hj) (by omega)
          have hsz := fun W => size_any (valB bs) W hu
          have htk : bs.take (4 + q) = bs := List.take_of_length_le (by omega)
          have F1 := Lib.hid fin1
          have F2 := Lib.hid fin2
          have HS := Lib.hid hstep
          have HC := Lib.hid hcs
          have HT := Lib.hid htk
          have HBB := Lib.hid hbb
          clear fin1 fin2 raw hu hbs hcs hstep hk htk hbb hbl e4
          go_enter Try.func17, Try.ntmps17
          go_wp2
          go_quiet (fail)
          go_wp2
          go_loop [8, 41] (fun x i => ∃ (j : Nat), j ≤ 4 + q ∧ i = .int .i64 j ∧ x = .int .u64 (valB (bs.take j))) (fun _ i => 4 + q - (intOf i).toNat)
          case atStart => exact ⟨0, by omega, rfl, rfl⟩
          case round =>
            obtain ⟨j, hj, rfl, rfl⟩ := hrel
            by_cases hj2 : j < 4 + q
            · have e := HS.out j hj2
              obtain ⟨T, hT⟩ : ∃ T, T = valB (bs.take j) := ⟨_, rfl⟩
              have hcell := HC.out j hj2
              have hcb := Bytes.getD HBB.out j
              obtain ⟨c1, hc1⟩ : ∃ c, c = bs.getD j 0 := ⟨_, rfl⟩
              rw [← hT, ← hc1] at e
              rw [← hT]
              rw [← hc1] at hcell hcb
              clear hT hc1
              have HE := Lib.hid e
              clear e
              go_wp2
              go_round
              case rel => exact ⟨j + 1, by omega, by go_num, by rw [HE.out]⟩
              case measure => simp [intOf]; omega
            · have ej : j = 4 + q := by omega
              subst ej
              rw [HT.out]
              obtain ⟨V, hV⟩ : ∃ V, V = valB bs := ⟨_, rfl⟩
              rw [← hV] at F1 F2 hsz ⊢
              clear hV
              by_cases hc : csz V = 5 + q
              · have fin := fun n => PS.out n
                rw [F1.out hc] at fin
                rw [hc] at hsz
                clear hc
                go_wp2_with (go_at_call 24; refine (hsz _).mono ?_; rintro e w' ⟨rfl, rfl⟩)
                go_ret3
                exact fin _
              · have fin := fun n => PS.out n
                rw [F2.out hc] at fin
                have hcn : ((csz V : Int) != 5 + (q : Int)) = true := by simp; omega
                clear hc
                go_wp2_with (go_at_call 24; refine (hsz _).mono ?_; rintro e w' ⟨rfl, rfl⟩)
                go_ret3
                exact fin _
end Go.Proofs.Ytcdbchdlenkdgaa
