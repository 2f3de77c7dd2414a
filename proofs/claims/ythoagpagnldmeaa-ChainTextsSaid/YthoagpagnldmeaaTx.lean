/- The law ChainTexts: its walk. -/
import Derived.Test.YthoagpagnldmeaaSw
import Derived.Test.YthoagpagnldmeaaPl
import Derived.Laws.Runes
set_option linter.unusedVariables false
set_option linter.unusedSimpArgs false
namespace Go.Proofs.Ythoagpagnldmeaa.S
open Go.RowKit Go.Ps
attribute [local go_sem] Oper.semAt_some
theorem u8_wrap_bounds (n : Int) : 0 ≤ IntKind.u8.wrap n ∧ IntKind.u8.wrap n < 256 := by
  unfold IntKind.wrap
  simp [IntKind.signed, IntKind.bits]
  omega
theorem u8_wrap_in {n : Int} (h0 : 0 ≤ n) (h1 : n < 256) : IntKind.u8.wrap n = n := by
  unfold IntKind.wrap
  simp [IntKind.signed, IntKind.bits]
  omega
theorem i32_wrap_in {n : Int} (h0 : 0 ≤ n) (h1 : n < 256) : IntKind.i32.wrap n = n := by
  unfold IntKind.wrap
  simp [IntKind.signed, IntKind.bits]
  omega
theorem Sim.drew {w0 W : World} {g c : Nat} {mp : Option Nat} {X : List Mem} {L : List (Int × Int)} {v : Value} {n : Int} (h : Sim w0 W g c mp X L v n) : Sim w0 W.drew g c mp X L v n := h.keep ((Chg.refl _ W).drew)
def TI (w0 : World) (g c k : Nat) (wr : World) : Prop := ∃ mp X L v n, Sim w0 wr g c mp X L v n ∧ 0 ≤ n ∧ n ≤ k ∧ L.length ≤ k ∧ ∀ p ∈ L, 0 ≤ p.2 ∧ p.2 < 26
theorem TI.keep {w0 : World} {g c k : Nat} {W W1 : World} (h : TI w0 g c k W) (hC : Chg (fun _ => False) W W1) : TI w0 g c (k + 1) W1 := by
  obtain ⟨mp, X, L, v, n, hS, h0, h1, h2, h3⟩ := h
  exact ⟨mp, X, L, v, n, hS.keep hC, h0, by omega, by omega, h3⟩
theorem start_new {w0 w2 : World} {g : Nat} (h : ChW 106 102 w2 g none [] 0) (hg : w0.heap.size ≤ g) (hC : Chg (fun _ => False) w0 w2) : TI w0 g w2.heap.size 0 (w2.alloc (.cells #[.slice none 0 0, .int .i64 0] 35)) := by
  have hlt := h.lt (.inl rfl)
  have hC2 : Chg (fun _ => False) w2 (w2.alloc (.cells #[.slice none 0 0, .int .i64 0] 35)) := (Chg.refl _ w2).alloc _
  refine ⟨none, [], [], .slice none 0 0, 0, ⟨h.keep hC2 (fun _ _ => id), rfl, ⟨heap_alloc_at _ _, OwnF.nil _ _ _ _, by intro e; cases e⟩, ?_, fun k hk => (by cases hk), ?_, hC.size, fun k hk => (by cases hk), ?_⟩, by omega, by omega, by simp, by simp⟩
  · rintro (e | e | ⟨x, hx, _⟩)
    · omega
    · cases e
    · cases hx
  · rintro k (e | e | ⟨x, hx, _⟩)
    · omega
    · cases e
    · cases hx
  · exact Below.of_chg (hC.trans hC2 (fun _ _ => id)) (Nat.le_refl _) (fun _ _ => id)
def catS (L : List (Int × Int)) : ByteArray := L.foldl (fun s p => s ++ chS p.2) ⟨#[]⟩
theorem snoc_ind {α : Type} {P : List α → Prop} (nil : P []) (snoc : ∀ L x, P L → P (L ++ [x])) (L : List α) : P L := by
  have h : ∀ R : List α, P R.reverse := fun R => by
    induction R with
    | nil => exact nil
    | cons x R ih => rw [List.reverse_cons]; exact snoc _ _ ih
  have := h L.reverse
  rwa [List.reverse_reverse] at this
def catP (L : List Tp) : ByteArray := L.foldl (fun s p => s ++ p.1.2) ⟨#[]⟩
def toT (p : Int × Int) : Tp := ⟨(p.1, chS p.2), enc_size _⟩
theorem catP_snoc (L : List Tp) (x : Tp) : catP (L ++ [x]) = catP L ++ x.1.2 := by simp [catP]
theorem catP_size : ∀ (L : List Tp), (catP L).size ≤ 4 * L.length := by
  intro L
  induction L using snoc_ind with
  | nil => exact Nat.zero_le _
  | snoc L x ih =>
    rw [catP_snoc, ByteArray.size_append, List.length_append]
    have := x.2
    simp only [List.length_cons, List.length_nil]
    omega
theorem catP_map (L : List (Int × Int)) : catP (L.map toT) = catS L := by
  unfold catP catS
  rw [List.foldl_map]
  rfl
theorem catS_snoc (L : List (Int × Int)) (x : Int × Int) : catS (L ++ [x]) = catS L ++ chS x.2 := by simp [catS]
theorem catS_size (L : List (Int × Int)) : (catS L).size ≤ 4 * L.length := by
  have := catP_size (L.map toT)
  rwa [catP_map, List.length_map] at this
def StI (B : Nat) (w0 : World) (pre : List Tp) (W : World) : Prop := W.heap[B]? = some (.cells #[.string (catP pre)] 9 (0, 0)) ∧ Below w0.heap.size w0 W ∧ w0.heap.size ≤ B
theorem StI.from {B Bl : Nat} {w0 : World} (h : w0.heap.size ≤ Bl) : OwnFrom Bl (StI B w0) := by
  rintro pre W W' row ⟨h1, h4, h5⟩ hg hr
  exact ⟨kept_cells hg (fun r e => (hr r e).2) h1, h4.grown hg h4.size (fun k e => Nat.le_trans h (hr k e).1), h5⟩
set_option maxRecDepth 20000 in
set_option maxHeartbeats 8000000 in
theorem chainTexts_walk (A : Option Addr) (cap : Nat) (l : List (Int × Int × Int × Int)) (w : World) (hr : Reads4 w .i64 .i64 .i64 .i64 A l ∧ ∀ z ∈ l, (Lit.int .i64 z.1).wf = true ∧ (Lit.int .i64 z.2.1).wf = true ∧ (Lit.int .i64 z.2.2.1).wf = true ∧ (Lit.int .i64 z.2.2.2).wf = true) :
    Calls Try.prog 4 #[.slice A l.length cap] w fun e w' => e = .returned (.bool true) ∧ Below w.heap.size w w' := by
  obtain ⟨hr, hwf0⟩ := hr
  clear hwf0
  obtain ⟨m, hm⟩ : ∃ m, m = l.length := ⟨_, rfl⟩
  rw [← hm]
  by_cases hl : l.length ≤ 100
  · have hm200 : ¬ (100 : Int) < m := by omega
    have HH := Lib.hid (⟨hr, hl, hm⟩ : _ ∧ _ ∧ _)
    clear hr hl hm
    refine (callsIn_wide (n := 9)).1 ?_
    refine callsIn_of_wp_marks Try.func4 rfl trivial ?_ rfl
    simp only [Try.ntmps4, List.size_toArray, List.length_cons, List.length_nil, Nat.reduceAdd, Nat.reduceSub, Array.replicate_succ, Array.replicate_zero, List.push_toArray, List.append_toArray, List.nil_append, List.cons_append]
    refine wpIn_wide.2 ?_
    go_wp2_with fail
    refine (awake_any _).mono ?_
    rintro e w1 ⟨rfl, hC1⟩
    have HC1 := Lib.hid hC1
    clear hC1
    go_wp2_with fail
    refine (new_any _).mono ?_
    rintro e w2 ⟨g, rfl, hg, hch, hC2⟩
    have HST := Lib.hid (start_new (w0 := w) hch (Nat.le_trans HC1.out.size hg) (HC1.out.trans hC2 (fun _ _ => id)))
    obtain ⟨c, hc⟩ : ∃ c, c = w2.heap.size := ⟨_, rfl⟩
    rw [← hc] at HST
    have HCC := Lib.hid hc
    clear hg hch hC2 hc
    go_wp2_with fail
    rw [← HCC.out]
    go_wp2
    go_loopw [29] (fun i wr => ∃ k : Nat, i = .int .i64 k ∧ k ≤ l.length ∧ TI w g c k wr) (fun i _ => l.length - (intOf i).toNat)
    case atStart => exact ⟨0, rfl, Nat.zero_le _, HST.out⟩
    case round =>
      obtain ⟨k, rfl, hk, hI⟩ := hrel
      obtain ⟨hr, hl200, hm⟩ := HH.out
      obtain ⟨mp, X, L, v, nn, hS0, h0, h1, hLl, hvs⟩ := hI
      by_cases hkl : k < l.length
      · obtain ⟨bb, off, rfl, hblt, hcell⟩ := hr (by rintro rfl; simp at hkl)
        obtain ⟨p0, p1, p2, p3⟩ := hcell k hkl
        obtain ⟨z, hz⟩ : ∃ z, z = l.getD k d4 := ⟨_, rfl⟩
        rw [← hz] at p0 p1 p2 p3
        have s0 := (hS0.bl.cell (p := ⟨bb, off + k * 4, none⟩) hblt).trans p0
        have s1 := (hS0.bl.cell (p := ⟨bb, off + k * 4 + 1, none⟩) hblt).trans p1
        have s2 := (hS0.bl.cell (p := ⟨bb, off + k * 4 + 2, none⟩) hblt).trans p2
        have s3 := (hS0.bl.cell (p := ⟨bb, off + k * 4 + 3, none⟩) hblt).trans p3
        have hkm : (k : Int) < m := by omega
        have HB := Lib.hid (⟨hkl, h0, h1, hLl, hl200, hvs⟩ : _ ∧ _ ∧ _ ∧ _ ∧ _ ∧ _)
        obtain ⟨r, hr⟩ : ∃ r, r = wr.heap.size := ⟨_, rfl⟩
        obtain ⟨V, hV⟩ : ∃ V, V = wr.alloc (.cells #[.int .i64 z.1, .int .i64 z.2.1, .int .i64 z.2.2.1, .int .i64 z.2.2.2] 37) := ⟨_, rfl⟩
        have hVC : Chg (fun _ => False) wr V := by rw [hV]; exact (Chg.refl _ wr).alloc _
        have hb : V.heap[r]? = some (.cells #[.int .i64 z.1, .int .i64 z.2.1, .int .i64 z.2.2.1, .int .i64 z.2.2.2] 37 (0, 0)) := by rw [hV, hr]; exact heap_alloc_at _ _
        have hrm : ¬ Mine g mp X r := fun hm => by have := hS0.ch.lt hm; omega
        have hrc : r ≠ c := by have := heap_lt hS0.rf.cell; omega
        have hS := hS0.keep hVC
        obtain ⟨q0, q1, q2, q3⟩ := read4 hb
        have HR := Lib.hid (⟨hS, hb, hrm, hrc⟩ : _ ∧ _ ∧ _ ∧ _)
        have HV := Lib.hid (⟨hV, hr⟩ : _ ∧ _)
        clear hl200 hm hS0 h0 h1 hLl hvs hcell p0 p1 p2 p3 hz hkl hk hblt hr hVC hb hrm hrc hS hV
        go_upto_region 8 with (fail)
        rw [← HV.out.1, ← HV.out.2]
        clear s0 s1 s2 s3
        by_cases k1 : z.1 = 1
        · rw [k1] at q0
          obtain ⟨u, hu⟩ : ∃ u, IntKind.u8.wrap z.2.2.2 = u := ⟨_, rfl⟩
          have hu2 : 0 ≤ u ∧ u < 256 := by rw [← hu]; exact u8_wrap_bounds _
          obtain ⟨zz, ht⟩ : ∃ zz, u.tmod 26 = zz := ⟨_, rfl⟩
          have hz2 : 0 ≤ zz ∧ zz < 26 := by rw [← ht]; exact ⟨Int.tmod_nonneg _ hu2.1, Int.tmod_lt_of_pos _ (by omega)⟩
          obtain ⟨y, hy⟩ : ∃ y, y = 97 + zz := ⟨_, rfl⟩
          have e1 : IntKind.u8.wrap (97 + zz) = y := by rw [hy]; exact u8_wrap_in (by omega) (by omega)
          have e2 : IntKind.i32.wrap y = y := i32_wrap_in (by omega) (by omega)
          have e4 : IntKind.i64.wrap zz = zz := wrap_i (by omega) (by omega)
          have e5 : wrap64 zz = zz := by unfold wrap64; omega
          obtain ⟨s, hs⟩ : ∃ s, s = chS zz := ⟨_, rfl⟩
          have e3 : Utf8.encode y = s := by rw [hs, hy]; rfl
          have hSd := HR.out.1.drew
          have hre := last_any s hSd.ch HB.out.2.1 (by have := HB.out; omega)
          have HZ := Lib.hid (⟨hz2, hs⟩ : _ ∧ _)
          have HS := Lib.hid hSd
          clear hu2 hz2 hy hs hSd
          go_wp2_with fail
          refine J.wp_region_seq (fun W => W.cell? ⟨r, 3, none⟩ = some (.int .i64 z.2.2.2)) [(0, 0), (1, 0), (2, 0), (3, 0), (4, 0), (5, 0), (6, 0), (7, 0), (9, 0), (10, 0), (11, 0), (12, 0), (13, 0), (14, 0), (8, 1), (15, 1), (16, 0)] (by kernel_rfl) (by kernel_rfl) (by kernel_rfl) q3 ?_
          iterate 14 (apply J.look (by rfl) (by rfl); (focus (intro W hW; go_simp; exact HasV.val rfl)); simp only [Act.put, List.setIfInBounds_toArray, List.set_cons_zero, List.set_cons_succ])
          refine J.link (fun u W => u = .int .i64 (nn + 1) ∧ ∃ b', ChPost 106 102 undef g mp X (X ++ ⟨b', nn + 1, .string s⟩ :: []) (nn + 1) V.drew W) (by rfl) (by rfl) ?_ (fun u W hR => ?_) ?_
          · go_simp
            refine J.HasR.call (hre.mono ?_)
            rintro e W2 ⟨b', rfl, hp⟩
            exact ⟨_, rfl, rfl, b', hp⟩
          · obtain ⟨_, b', mp', _, hC, _⟩ := hR
            exact chg_cell hC q3 HR.out.2.2.1
          rintro u1 W1 ⟨rfl, b', hp⟩
          simp only [Act.put, List.setIfInBounds_toArray, List.set_cons_zero, List.set_cons_succ]
          obtain ⟨mp', hM⟩ := HS.out.mid.real hp
          have hbW1 : W1.cell? ⟨r, 3, none⟩ = some (.int .i64 z.2.2.2) := by
            obtain ⟨mp'', _, hC, _⟩ := hp
            exact chg_cell hC q3 HR.out.2.2.1
          have hrf := rlast_any zz hM.rf HB.out.2.1 (by have := HB.out; omega) (by have := HB.out; omega)
          refine J.link (fun u W2 => u = .int .i64 (nn + 1) ∧ PutPost c (L ++ [(nn + 1, zz)]) (nn + 1) W1 (.int .i64 (nn + 1)) (.returned (.int .i64 (nn + 1))) W2) (by rfl) (by rfl) ?_ (fun u W2 hR => ?_) ?_
          · go_simp
            refine J.HasR.call (hrf.mono ?_)
            rintro e W2 hq
            obtain ⟨v', rfl, hq2⟩ := hq
            exact ⟨_, rfl, rfl, v', rfl, hq2⟩
          · obtain ⟨_, v', _, _, hC, _⟩ := hR
            exact chg_cell hC hbW1 HR.out.2.2.2
          rintro u2 W2 ⟨rfl, v', _, hR2, hC2, hf2⟩
          simp only [Act.put, List.setIfInBounds_toArray, List.set_cons_zero, List.set_cons_succ]
          have hsim := hM.ref (NmT.snoc HS.out.nm (show NmT [] [] from rfl) b' (nn + 1) zz |> fun h => (by rw [HZ.out.2]; exact h)) hR2 hC2 hf2
          have HP := Lib.hid (show TI w g c (k + 1) W2 from ⟨_, _, _, _, _, hsim, by have := HB.out; omega, by have := HB.out; omega, by have := HB.out; simp; omega, by
            intro p hp2
            rcases List.mem_append.1 hp2 with h | h
            · exact HB.out.2.2.2.2.2 p h
            · simp at h; subst h; exact HZ.out.1⟩)
          clear hp hM hbW1 hrf hR2 hC2 hf2 hsim hre
          iterate 1 (apply J.look (by rfl) (by rfl); (focus (intro W hW; go_simp; exact HasV.val rfl)); simp only [Act.put, List.setIfInBounds_toArray, List.set_cons_zero, List.set_cons_succ])
          refine J.fin ?_
          clear q0 q1 q2 q3 e1 e2 e3 e4 e5
          go_wp2
          go_roundw
          case rel => exact ⟨k + 1, rfl, HB.out.1, HP.out⟩
          case measure =>
            have h1 := HB.out.1
            simp only [intOf]
            omega
        by_cases k4 : z.1 = 4
        · rw [k4] at q0
          cases hk : findH X z.2.1 with
          | none =>
            have hre := remove_none HR.out.1.ch hk
            have hrf := rremove_none z.2.1 HR.out.1.rf (by have := HB.out; omega) (nmT_none HR.out.1.nm hk)
            have HP := Lib.hid (show TI w g c (k + 1) V from TI.keep (W := V) ⟨_, _, _, _, _, HR.out.1, HB.out.2.1, HB.out.2.2.1, HB.out.2.2.2.1, HB.out.2.2.2.2.2⟩ (Chg.refl _ _))
            clear hk k1 k4
            go_wp2_with fail
            refine hre.mono ?_
            rintro e w' ⟨rfl, rfl⟩
            go_wp2_with fail
            refine hrf.mono ?_
            rintro e w' ⟨rfl, rfl⟩
            clear hre hrf q0 q1 q2 q3
            go_wp2
            go_roundw
            case rel => exact ⟨k + 1, rfl, HB.out.1, HP.out⟩
            case measure =>
              have h1 := HB.out.1
              simp only [intOf]
              omega
          | some x =>
            obtain ⟨A1, B1, LA, zx, LB, rfl, rfl, hnA, hnB, hxv, hxh, hfn, hAl⟩ := nmT_some HR.out.1.nm HR.out.1.ch.hs hk
            have hzx := HB.out.2.2.2.2.2 (z.2.1, zx) (by simp)
            simp only at hzx
            obtain ⟨y, hy⟩ : ∃ y, y = 97 + zx := ⟨_, rfl⟩
            have e1 : IntKind.i64.wrap (97 + zx) = y := by rw [hy]; exact wrap_i (by omega) (by omega)
            have e1' : wrap64 (97 + zx) = y := by rw [hy]; unfold wrap64; omega
            have e2 : IntKind.i32.wrap y = y := i32_wrap_in (by omega) (by omega)
            obtain ⟨s, hs⟩ : ∃ s, s = chS zx := ⟨_, rfl⟩
            have e3 : Utf8.encode y = s := by rw [hs, hy]; rfl
            rw [← hs] at hxv
            have hre := remove_some s HR.out.1.ch hk hxv
            have HX := Lib.hid (⟨show NmT (A1 ++ B1) (LA ++ LB) from NmT.append hnA hnB, hfn⟩ : _ ∧ _)
            clear hk hnA hnB hxv hxh hfn hAl hzx hy hs k1 k4
            go_wp2_with fail
            refine hre.mono ?_
            rintro e W1 ⟨rfl, hp⟩
            obtain ⟨mp', hM⟩ := HR.out.1.mid.real hp
            have hb1 : W1.heap[r]? = some (.cells #[.int .i64 z.1, .int .i64 z.2.1, .int .i64 z.2.2.1, .int .i64 z.2.2.2] 37 (0, 0)) := by
              obtain ⟨mp'', _, hC, _⟩ := hp
              exact (hC.block r (heap_lt HR.out.2.1) HR.out.2.2.1).trans HR.out.2.1
            have hrf := rremove_some z.2.1 LA.length hM.rf (by have := HB.out; omega) HX.out.2 (by simp)
            have e6 : (LA ++ (z.2.1, zx) :: LB).take LA.length ++ (LA ++ (z.2.1, zx) :: LB).drop (LA.length + 1) = LA ++ LB := by simp
            have e7 : (LA ++ (z.2.1, zx) :: LB).getD LA.length (0, 0) = (z.2.1, zx) := by simp [List.getD_eq_getElem?_getD]
            rw [e6, e7] at hrf
            have HM := Lib.hid hM
            clear q0 q1 q2 q3 hp hM hre e6 e7
            obtain ⟨q0, q1, q2, q3⟩ := read4 hb1
            clear hb1 q0
            go_wp2_with fail
            refine hrf.mono ?_
            rintro e W2 ⟨v', rfl, hR2, hC2, hf2⟩
            have hsim := HM.out.ref HX.out.1 hR2 hC2 hf2
            have HP := Lib.hid (show TI w g c (k + 1) W2 from ⟨_, _, _, _, _, hsim, by have := HB.out; omega, by have := HB.out; omega, by have := HB.out.2.2.2.1; simp at this ⊢; omega, fun p hp2 => HB.out.2.2.2.2.2 p (by
              rcases List.mem_append.1 hp2 with h | h <;> simp [h])⟩)
            clear hrf hR2 hC2 hf2 hsim q1 q2 q3
            go_wp2
            go_roundw
            case rel => exact ⟨k + 1, rfl, HB.out.1, HP.out⟩
            case measure =>
              have h1 := HB.out.1
              simp only [intOf]
              omega
        by_cases k5 : z.1 = 5
        · rw [k5] at q0
          have hSd := HR.out.1.drew
          have HS := Lib.hid hSd
          have HP0 := Lib.hid (show TI w g c (k + 1) V.drew from TI.keep (W := V) ⟨_, _, _, _, _, HR.out.1, HB.out.2.1, HB.out.2.2.1, HB.out.2.2.2.1, HB.out.2.2.2.2.2⟩ ((Chg.refl _ _).drew))
          have hl10 : L.length ≤ 10000 := by have := HB.out; omega
          cases hk : findH X z.2.1 with
          | none =>
            have hre := move_none (j := z.2.2.1) hSd.ch (.inl hk)
            have hrf := rmove_none z.2.1 z.2.2.1 hSd.rf hl10 (.inl (nmT_none hSd.nm hk))
            clear hk hSd k1 k4 k5 hl10
            go_wp2_with fail
            refine J.wp_region_seq (fun W => W.cell? ⟨r, 1, none⟩ = some (.int .i64 z.2.1) ∧ W.cell? ⟨r, 2, none⟩ = some (.int .i64 z.2.2.1)) [(0, 0), (1, 0), (2, 0), (3, 0), (4, 0), (6, 0), (7, 0), (8, 0), (9, 0), (10, 0), (5, 1), (11, 1), (12, 0)] (by kernel_rfl) (by kernel_rfl) (by kernel_rfl) ⟨q1, q2⟩ ?_
            iterate 10 (apply J.look (by rfl) (by rfl); (focus (intro W hW; obtain ⟨hW1, hW2⟩ := hW; go_simp; exact HasV.val rfl)); simp only [Act.put, List.setIfInBounds_toArray, List.set_cons_zero, List.set_cons_succ])
            refine J.link (fun u W => u = .int .i64 5 ∧ W = V.drew) (by rfl) (by rfl) ?_ (fun u W hR => by rw [hR.2]; exact ⟨q1, q2⟩) ?_
            · go_simp
              refine J.HasR.call (hre.mono ?_)
              rintro e W2 ⟨rfl, rfl⟩
              exact ⟨_, rfl, rfl, rfl⟩
            rintro u W1 ⟨rfl, rfl⟩
            simp only [Act.put, List.setIfInBounds_toArray, List.set_cons_zero, List.set_cons_succ]
            refine J.link (fun u W => u = .int .i64 5 ∧ W = V.drew) (by rfl) (by rfl) ?_ (fun u W hR => by rw [hR.2]; exact ⟨q1, q2⟩) ?_
            · go_simp
              refine J.HasR.call (hrf.mono ?_)
              rintro e W2 ⟨rfl, rfl⟩
              exact ⟨_, rfl, rfl, rfl⟩
            rintro u W1 ⟨rfl, rfl⟩
            simp only [Act.put, List.setIfInBounds_toArray, List.set_cons_zero, List.set_cons_succ]
            iterate 1 (apply J.look (by rfl) (by rfl); (focus (intro W hW; go_simp; exact HasV.val rfl)); simp only [Act.put, List.setIfInBounds_toArray, List.set_cons_zero, List.set_cons_succ])
            refine J.fin ?_
            clear hre hrf q0 q1 q2 q3
            have HP := HP0
            go_wp2
            go_roundw
            case rel => exact ⟨k + 1, rfl, HB.out.1, HP.out⟩
            case measure =>
              have h1 := HB.out.1
              simp only [intOf]
              omega
          | some m1 =>
            cases hj : findH X z.2.2.1 with
            | none =>
              have hre := move_none hSd.ch (.inr hj) (k := z.2.1)
              obtain ⟨_, _, LA, _, _, -, -, -, -, -, -, hfn, -⟩ := nmT_some hSd.nm hSd.ch.hs hk
              have hrf := rmove_none z.2.1 z.2.2.1 hSd.rf hl10 (.inr ⟨⟨_, hfn⟩, nmT_none hSd.nm hj⟩)
              clear hk hj hfn hSd k1 k4 k5 hl10
              go_wp2_with fail
              refine J.wp_region_seq (fun W => W.cell? ⟨r, 1, none⟩ = some (.int .i64 z.2.1) ∧ W.cell? ⟨r, 2, none⟩ = some (.int .i64 z.2.2.1)) [(0, 0), (1, 0), (2, 0), (3, 0), (4, 0), (6, 0), (7, 0), (8, 0), (9, 0), (10, 0), (5, 1), (11, 1), (12, 0)] (by kernel_rfl) (by kernel_rfl) (by kernel_rfl) ⟨q1, q2⟩ ?_
              iterate 10 (apply J.look (by rfl) (by rfl); (focus (intro W hW; obtain ⟨hW1, hW2⟩ := hW; go_simp; exact HasV.val rfl)); simp only [Act.put, List.setIfInBounds_toArray, List.set_cons_zero, List.set_cons_succ])
              refine J.link (fun u W => u = .int .i64 5 ∧ W = V.drew) (by rfl) (by rfl) ?_ (fun u W hR => by rw [hR.2]; exact ⟨q1, q2⟩) ?_
              · go_simp
                refine J.HasR.call (hre.mono ?_)
                rintro e W2 ⟨rfl, rfl⟩
                exact ⟨_, rfl, rfl, rfl⟩
              rintro u W1 ⟨rfl, rfl⟩
              simp only [Act.put, List.setIfInBounds_toArray, List.set_cons_zero, List.set_cons_succ]
              refine J.link (fun u W => u = .int .i64 5 ∧ W = V.drew) (by rfl) (by rfl) ?_ (fun u W hR => by rw [hR.2]; exact ⟨q1, q2⟩) ?_
              · go_simp
                refine J.HasR.call (hrf.mono ?_)
                rintro e W2 ⟨rfl, rfl⟩
                exact ⟨_, rfl, rfl, rfl⟩
              rintro u W1 ⟨rfl, rfl⟩
              simp only [Act.put, List.setIfInBounds_toArray, List.set_cons_zero, List.set_cons_succ]
              iterate 1 (apply J.look (by rfl) (by rfl); (focus (intro W hW; go_simp; exact HasV.val rfl)); simp only [Act.put, List.setIfInBounds_toArray, List.set_cons_zero, List.set_cons_succ])
              refine J.fin ?_
              clear hre hrf q0 q1 q2 q3
              have HP := HP0
              go_wp2
              go_roundw
              case rel => exact ⟨k + 1, rfl, HB.out.1, HP.out⟩
              case measure =>
                have h1 := HB.out.1
                simp only [intOf]
                omega
            | some x =>
              by_cases hab : z.2.1 = z.2.2.1
              · obtain rfl : x = m1 := Option.some.inj (hj.symm.trans (by rw [← hab]; exact hk))
                have hre := move_same hSd.ch hk hj
                obtain ⟨_, _, LA, _, _, -, -, -, -, -, -, hfn, -⟩ := nmT_some hSd.nm hSd.ch.hs hk
                have hrf := rmove_same z.2.1 _ hSd.rf hl10 hfn
                rw [← hab] at hre q2
                clear hk hj hfn hSd k1 k4 k5 hl10 hab
                go_wp2_with fail
                refine J.wp_region_seq (fun W => W.cell? ⟨r, 1, none⟩ = some (.int .i64 z.2.1) ∧ W.cell? ⟨r, 2, none⟩ = some (.int .i64 z.2.1)) [(0, 0), (1, 0), (2, 0), (3, 0), (4, 0), (6, 0), (7, 0), (8, 0), (9, 0), (10, 0), (5, 1), (11, 1), (12, 0)] (by kernel_rfl) (by kernel_rfl) (by kernel_rfl) ⟨q1, q2⟩ ?_
                iterate 10 (apply J.look (by rfl) (by rfl); (focus (intro W hW; obtain ⟨hW1, hW2⟩ := hW; go_simp; exact HasV.val rfl)); simp only [Act.put, List.setIfInBounds_toArray, List.set_cons_zero, List.set_cons_succ])
                refine J.link (fun u W => u = .int .i64 1 ∧ W = V.drew) (by rfl) (by rfl) ?_ (fun u W hR => by rw [hR.2]; exact ⟨q1, q2⟩) ?_
                · go_simp
                  refine J.HasR.call (hre.mono ?_)
                  rintro e W2 ⟨rfl, rfl⟩
                  exact ⟨_, rfl, rfl, rfl⟩
                rintro u W1 ⟨rfl, rfl⟩
                simp only [Act.put, List.setIfInBounds_toArray, List.set_cons_zero, List.set_cons_succ]
                refine J.link (fun u W => u = .int .i64 1 ∧ W = V.drew) (by rfl) (by rfl) ?_ (fun u W hR => by rw [hR.2]; exact ⟨q1, q2⟩) ?_
                · go_simp
                  refine J.HasR.call (hrf.mono ?_)
                  rintro e W2 ⟨rfl, rfl⟩
                  exact ⟨_, rfl, rfl, rfl⟩
                rintro u W1 ⟨rfl, rfl⟩
                simp only [Act.put, List.setIfInBounds_toArray, List.set_cons_zero, List.set_cons_succ]
                iterate 1 (apply J.look (by rfl) (by rfl); (focus (intro W hW; go_simp; exact HasV.val rfl)); simp only [Act.put, List.setIfInBounds_toArray, List.set_cons_zero, List.set_cons_succ])
                refine J.fin ?_
                clear hre hrf q0 q1 q2 q3
                have HP := HP0
                go_wp2
                go_roundw
                case rel => exact ⟨k + 1, rfl, HB.out.1, HP.out⟩
                case measure =>
                  have h1 := HB.out.1
                  simp only [intOf]
                  omega
              · obtain ⟨_, _, LB0, _, _, -, -, -, -, -, -, hfnb, -⟩ := nmT_some hSd.nm hSd.ch.hs hj
                obtain ⟨A1, B1, LA, zm, LB, rfl, rfl, hnA, hnB, hmv, hmh, hfn, hAl⟩ := nmT_some hSd.nm hSd.ch.hs hk
                have hnAB := NmT.append hnA hnB
                have hhs : ((A1 ++ B1).map (·.h)).Nodup := by
                  have := hSd.ch.hs
                  simp only [List.map_append, List.map_cons] at this ⊢
                  exact this.sublist (List.Sublist.append (List.Sublist.refl _) (List.sublist_cons_self _ _))
                obtain ⟨hxm, hxb⟩ := findH_some hj
                have hxAB : x ∈ A1 ++ B1 := by
                  simp only [List.mem_append, List.mem_cons] at hxm ⊢
                  rcases hxm with h2 | h2 | h2
                  · exact .inl h2
                  · subst h2; exact absurd (hmh.symm.trans hxb) hab
                  · exact .inr h2
                have hjAB : findH (A1 ++ B1) z.2.2.1 = some x := by rw [← hxb]; exact findH_nd hhs hxAB
                obtain ⟨C, D, LC, zx, LD, hCD, hLCD, hnC, hnD, hxv, hxh, hfn2, hCl⟩ := nmT_some hnAB hhs hjAB
                have hre := move_some hSd.ch hk hj hCD
                have f1 : (LA ++ (z.2.1, zm) :: LB).take LA.length ++ (LA ++ (z.2.1, zm) :: LB).drop (LA.length + 1) = LA ++ LB := by simp
                have f2 : (LA ++ (z.2.1, zm) :: LB).getD LA.length (0, 0) = (z.2.1, zm) := by simp [List.getD_eq_getElem?_getD]
                have f3 : (LA ++ LB).take LC.length = LC := by rw [hLCD, List.take_left]
                have f4 : (LA ++ LB).drop LC.length = (z.2.2.1, zx) :: LD := by rw [hLCD, List.drop_left]
                have f5 : LC.length ≤ (LA ++ LB).length := by rw [hLCD]; simp
                have f6 : (LC ++ (z.2.2.1, zx) :: LD).length = (LA ++ LB).length := by rw [hLCD]
                have hrfAll : ∀ W1 mp', Mid w W1 g c mp' (C ++ m1 :: x :: D) nn (LA ++ (z.2.1, zm) :: LB) v nn → Calls Try.prog 22 #[.pointer (some ⟨c, 0, none⟩), .int .i64 z.2.1, .int .i64 z.2.2.1] W1 (PutPost c (LC ++ (z.2.1, zm) :: (z.2.2.1, zx) :: LD) nn W1 (.int .i64 0)) := fun W1 mp' hM => by
                  have := rmove_some z.2.1 z.2.2.1 LA.length LB0.length LC.length hM.rf hl10 hfn hfnb (by simp) hab (by rw [f1]; exact hfn2) (by rw [f1]; exact f5)
                  rw [f1, f2, f3, f4] at this
                  exact this
                have hnm : NmT (C ++ m1 :: x :: D) (LC ++ (z.2.1, zm) :: (z.2.2.1, zx) :: LD) := NmT.append hnC (by
                  have h1 := NmT.cons hnD hxv
                  rw [hxh] at h1
                  have h2 := NmT.cons h1 hmv
                  rw [hmh] at h2
                  exact h2)
                have hlen : (LC ++ (z.2.1, zm) :: (z.2.2.1, zx) :: LD).length ≤ k + 1 := by have := HB.out.2.2.2.1; simp at f6 this ⊢; omega
                have hvv : ∀ p ∈ LC ++ (z.2.1, zm) :: (z.2.2.1, zx) :: LD, 0 ≤ p.2 ∧ p.2 < 26 := by
                  intro p hp
                  have hin : p ∈ LA ++ (z.2.1, zm) :: LB := by
                    simp only [List.mem_append, List.mem_cons] at hp ⊢
                    have h9 : ∀ q, q ∈ LC ++ (z.2.2.1, zx) :: LD → q ∈ LA ∨ q ∈ LB := fun q hq => by rw [← hLCD] at hq; exact List.mem_append.1 hq
                    rcases hp with h | h | h | h
                    · rcases h9 p (by simp [h]) with h | h <;> simp [h]
                    · simp [h]
                    · rcases h9 p (by simp [h]) with h | h <;> simp [h]
                    · rcases h9 p (by simp [h]) with h | h <;> simp [h]
                  exact HB.out.2.2.2.2.2 p hin
                have HX := Lib.hid (⟨hrfAll, hnm, hlen, hvv⟩ : _ ∧ _ ∧ _ ∧ _)
                clear hSd hk hj hfnb hnA hnB hmv hmh hfn hAl hnAB hhs hxm hxb hxAB hjAB hCD hLCD hnC hnD hxv hxh hfn2 hCl f1 f2 f3 f4 f5 f6 hrfAll hnm hlen hvv hab k1 k4 k5 hl10
                go_wp2_with fail
                refine J.wp_region_seq (fun W => W.cell? ⟨r, 1, none⟩ = some (.int .i64 z.2.1) ∧ W.cell? ⟨r, 2, none⟩ = some (.int .i64 z.2.2.1)) [(0, 0), (1, 0), (2, 0), (3, 0), (4, 0), (6, 0), (7, 0), (8, 0), (9, 0), (10, 0), (5, 1), (11, 1), (12, 0)] (by kernel_rfl) (by kernel_rfl) (by kernel_rfl) ⟨q1, q2⟩ ?_
                iterate 10 (apply J.look (by rfl) (by rfl); (focus (intro W hW; obtain ⟨hW1, hW2⟩ := hW; go_simp; exact HasV.val rfl)); simp only [Act.put, List.setIfInBounds_toArray, List.set_cons_zero, List.set_cons_succ])
                refine J.link (fun u W => u = .int .i64 0 ∧ ChPost 106 102 undef g mp (A1 ++ m1 :: B1) (C ++ m1 :: x :: D) nn V.drew W) (by rfl) (by rfl) ?_ (fun u W hR => ?_) ?_
                · go_simp
                  refine J.HasR.call (hre.mono ?_)
                  rintro e W2 ⟨rfl, hp⟩
                  exact ⟨_, rfl, rfl, hp⟩
                · obtain ⟨_, mp', _, hC, _⟩ := hR
                  exact ⟨chg_cell hC q1 HR.out.2.2.1, chg_cell hC q2 HR.out.2.2.1⟩
                rintro u W1 ⟨rfl, hp⟩
                simp only [Act.put, List.setIfInBounds_toArray, List.set_cons_zero, List.set_cons_succ]
                obtain ⟨mp', hM⟩ := HS.out.mid.real hp
                have hbW1 : W1.cell? ⟨r, 1, none⟩ = some (.int .i64 z.2.1) ∧ W1.cell? ⟨r, 2, none⟩ = some (.int .i64 z.2.2.1) := by
                  obtain ⟨mp'', _, hC, _⟩ := hp
                  exact ⟨chg_cell hC q1 HR.out.2.2.1, chg_cell hC q2 HR.out.2.2.1⟩
                have hrf := HX.out.1 W1 mp' hM
                refine J.link (fun u W2 => u = .int .i64 0 ∧ PutPost c (LC ++ (z.2.1, zm) :: (z.2.2.1, zx) :: LD) nn W1 (.int .i64 0) (.returned (.int .i64 0)) W2) (by rfl) (by rfl) ?_ (fun u W2 hR => ?_) ?_
                · go_simp
                  refine J.HasR.call (hrf.mono ?_)
                  rintro e W2 hq
                  obtain ⟨v', rfl, hq2⟩ := hq
                  exact ⟨_, rfl, rfl, v', rfl, hq2⟩
                · obtain ⟨_, v', _, _, hC, _⟩ := hR
                  exact ⟨chg_cell hC hbW1.1 HR.out.2.2.2, chg_cell hC hbW1.2 HR.out.2.2.2⟩
                rintro u W2 ⟨rfl, v', _, hR2, hC2, hf2⟩
                simp only [Act.put, List.setIfInBounds_toArray, List.set_cons_zero, List.set_cons_succ]
                have hsim := hM.ref HX.out.2.1 hR2 hC2 hf2
                have HP := Lib.hid (show TI w g c (k + 1) W2 from ⟨_, _, _, _, _, hsim, by have := HB.out; omega, by have := HB.out; omega, HX.out.2.2.1, HX.out.2.2.2⟩)
                clear hp hM hbW1 hrf hR2 hC2 hf2 hsim hre
                iterate 1 (apply J.look (by rfl) (by rfl); (focus (intro W hW; go_simp; exact HasV.val rfl)); simp only [Act.put, List.setIfInBounds_toArray, List.set_cons_zero, List.set_cons_succ])
                refine J.fin ?_
                clear q0 q1 q2 q3
                go_wp2
                go_roundw
                case rel => exact ⟨k + 1, rfl, HB.out.1, HP.out⟩
                case measure =>
                  have h1 := HB.out.1
                  simp only [intOf]
                  omega
        have HP := Lib.hid (show TI w g c (k + 1) V from TI.keep (W := V) ⟨_, _, _, _, _, HR.out.1, HB.out.2.1, HB.out.2.2.1, HB.out.2.2.2.1, HB.out.2.2.2.2.2⟩ (Chg.refl _ _))
        go_wp2
        go_roundw
        case rel => exact ⟨k + 1, rfl, HB.out.1, HP.out⟩
        case measure =>
          have h1 := HB.out.1
          simp only [intOf]
          omega
      · have hkm : ¬ (k : Int) < m := by omega
        have hXl := hS0.nm.length
        have hNm : Nm X ((L.map toT).map (·.1)) := by
          have := hS0.nm.toNm
          rw [List.map_map]
          exact this
        obtain ⟨n0, hn0⟩ : ∃ n0, n0 = wr.heap.size := ⟨_, rfl⟩
        obtain ⟨W1, hW1⟩ : ∃ W1, W1 = (wr.alloc (.cells #[.string ⟨#[]⟩] 9)).alloc (.cells #[.pointer (some ⟨g, 0, none⟩)] 30) := ⟨_, rfl⟩
        have hB0 : W1.heap[n0]? = some (.cells #[.string ⟨#[]⟩] 9 (0, 0)) := by rw [hW1, hn0]; exact heap_alloc_ne (heap_alloc_at _ _)
        have hB1 : W1.heap[n0 + 1]? = some (.cells #[.pointer (some ⟨g, 0, none⟩)] 30 (0, 0)) := by
          rw [hW1, hn0]
          have := heap_alloc_at (wr.alloc (.cells #[.string ⟨#[]⟩] 9)) (.cells #[.pointer (some ⟨g, 0, none⟩)] 30)
          rwa [World.size_alloc] at this
        have hbl : Below wr.heap.size wr W1 := by rw [hW1]; exact ((Below.refl _ wr).alloc (Nat.le_refl _) _).alloc (by simp) _
        have hsz : W1.heap.size = n0 + 2 := by rw [hW1, hn0]; simp
        have hown : ∀ k, (k = n0 + 1 ∨ Mine g mp X k) → ¬ OutOwn n0 W1 k := by
          rintro k hk ⟨h1, rfl | ⟨v, h2, h3⟩⟩
          · rcases hk with hk | hk
            · omega
            · have := hS0.ch.lt hk; omega
          · rw [cell_of hB0 0 rfl] at h2
            cases h2
            cases h3
        have hst := all_stopsT (9 - 1) n0 n0 (n0 + 1) g mp X nn (L.map toT) W1 hB1 (hS0.ch.same (fun k hk => hbl.block k (hS0.ch.lt hk))) (by omega) hNm (fun k hk => by rw [hn0]; exact hS0.ch.lt hk) (by omega) (fun v k h2 h3 => by rw [cell_of hB0 0 rfl] at h2; cases h2; cases h3) hown
        have hI0 : StI n0 wr [] W1 := ⟨hB0, hbl, by omega⟩
        have HF := Lib.hid (⟨hS0, hsz, hI0, hn0, hvs, hXl⟩ : _ ∧ _ ∧ _ ∧ _ ∧ _ ∧ _)
        have HST := Lib.hid hst
        have HW1 := Lib.hid hW1
        have HL1 := Lib.hid (show L.length ≤ 100 by omega)
        clear hr hl200 hm hS0 h0 h1 hLl hvs hkl hk hXl hNm hn0 hW1 hB0 hB1 hbl hsz hown hst hI0
        go_wp2_with fail
        refine (all_any _ _).mono ?_
        rintro e w' ⟨rfl, rfl⟩
        go_wp2_with fail
        rw [← HW1.out]
        rw [← HF.out.2.2.2.1]
        refine (wpIn_wide (n := 9)).1 ?_
        refine wpIn_rangeFunc_ownF rfl (by omega) (gf := 67) (lb := #[.pointer (some ⟨n0 + 1, 0, none⟩)]) rfl trivial (enters_of Try.func67 (by kernel_rfl) rfl)
          HST.out (fun h k => Kept.trans h k) (kept_b (by have := HF.out.2.1; omega) (by have := HF.out.2.1; omega)) (Below.refl _ _) (fun _ => rfl)
          (StI n0 wr) (fun _ _ _ => False) (StI.from (by have := HF.out.2.1; have := HF.out.2.2.2.1; omega)) (fun _ _ _ _ _ hs _ _ => hs) HF.out.2.2.1 ?a1 ?assign ?body ?done ?stop
        case assign =>
          intro l x W K hK
          simp only [encsT]
          gi_wp2
          exact hK
        case body =>
          rintro l pre x W ⟨hb, hbl, hB⟩ hlt
          rw [List.length_map] at hlt
          have hs1 := catP_size pre
          have hs2 := x.2
          obtain ⟨s, hs⟩ : ∃ s, s = catP pre := ⟨_, rfl⟩
          obtain ⟨tx, htx⟩ : ∃ tx, tx = x.1.2 := ⟨_, rfl⟩
          obtain ⟨sx, hsx⟩ : ∃ sx, sx = s ++ tx := ⟨_, rfl⟩
          rw [← hs] at hb hs1
          rw [← htx] at hs2
          have hadd : ∀ W, (Op.stringOp .add s tx).run Try.prog W = .ok (.string sx) W := fun W => by rw [hsx]; exact run_string_add_sum W s tx (by have := HL1.out; omega)
          have r0 := cell_of hb 0 rfl
          have r1 := frz hb
          have q1 : KeepsOthers W (W.setCell ⟨n0, 0, none⟩ (.string sx)) := KeepsOthers.setCell _ _ _
          have q2 : Kept n0 n0 W (W.setCell ⟨n0, 0, none⟩ (.string sx)) := kept_set hb rfl
          have q3 : StI n0 wr (pre ++ [x]) (W.setCell ⟨n0, 0, none⟩ (.string sx)) := ⟨by rw [heap_setCell hb, catP_snoc, ← hs, ← htx, ← hsx]; rfl, hbl.setCell (p := ⟨n0, 0, none⟩) hB _, hB⟩
          have HQ := Lib.hid (⟨q1, q2, q3⟩ : _ ∧ _ ∧ _)
          clear hb hbl hB hlt hs1 hs2 hs hsx q1 q2 q3
          rw [← htx]
          clear htx
          gi_wp2
          exact HQ.out
        case done =>
          rintro D ys W hD rfl ⟨hb, hbl, hB⟩ hK
          rw [catP_map] at hb
          have hS1 := (HF.out.1.keep (W1 := W) ⟨hbl.os, hbl.tape, hbl.output, hbl.size, fun k hk _ => hbl.block k hk⟩)
          have hK2 := hK
          have hDn : w.heap.size ≤ D := by have h1 := HF.out.1.bl.size; have h2 := HF.out.2.1; have h3 := HF.out.2.2.2.1; omega
          obtain ⟨s, hs⟩ : ∃ s, s = catS L := ⟨_, rfl⟩
          rw [← hs] at hb
          have r0 : W.cell? ⟨n0, 0, none⟩ = some (.string s) := cell_of hb 0 rfl
          obtain ⟨Ar, cr, hvr, _⟩ := hS1.rf.own.form
          obtain ⟨nL, hnL⟩ : ∃ nL, nL = L.length := ⟨_, rfl⟩
          rw [← hnL] at hvr
          have x0 := hS1.rf.cells.1
          rw [hvr] at x0
          have HE := Lib.hid (⟨hS1, hDn, hs, hvr, hnL⟩ : _ ∧ _ ∧ _ ∧ _ ∧ _)
          have HK := Lib.hid hK2
          clear hb hbl hB hK hS1 hK2 hDn hs hvr hD hnL hkm
          go_wp2
          go_loop [14, 115] (fun t i => ∃ k : Nat, i = .int .i64 k ∧ k ≤ nL ∧ t = .string (catS (L.take k))) (fun _ i => nL - (intOf i).toNat)
          case atStart => exact ⟨0, rfl, Nat.zero_le _, rfl⟩
          case round =>
            obtain ⟨k, rfl, hk, rfl⟩ := hrel
            obtain ⟨hS1, hDn, hs, hvr, hnL⟩ := HE.out
            by_cases hkn : k < nL
            · have hl1 := HL1.out
              obtain ⟨g1, d1, hv1, p0, p1⟩ := row_cells hS1.rf.own k (by omega)
              rw [hvr] at hv1
              have hAr : Ar = some ⟨g1, 0, none⟩ := by injection hv1
              subst hAr
              obtain ⟨x, hx⟩ : ∃ x, x = L.getD k (0, 0) := ⟨_, rfl⟩
              rw [← hx] at p0 p1
              have hLk : L[k]? = some x := by
                rw [hx, List.getD_eq_getElem?_getD, List.getElem?_eq_getElem (by omega)]; rfl
              have hxr := HF.out.2.2.2.2.1 x (List.mem_of_getElem? hLk)
              have htk : L.take (k + 1) = L.take k ++ [x] := by rw [List.take_add_one, hLk]; rfl
              obtain ⟨y, hy⟩ : ∃ y, y = 97 + x.2 := ⟨_, rfl⟩
              have e1 : IntKind.i64.wrap (97 + x.2) = y := by rw [hy]; exact wrap_i (by omega) (by omega)
              have e1' : wrap64 (97 + x.2) = y := by rw [hy]; unfold wrap64; omega
              have e2 : IntKind.i32.wrap y = y := i32_wrap_in (by omega) (by omega)
              obtain ⟨s1, hs1⟩ : ∃ s1, s1 = catS (L.take k) := ⟨_, rfl⟩
              obtain ⟨s2, hs2⟩ : ∃ s2, s2 = chS x.2 := ⟨_, rfl⟩
              have e3 : Utf8.encode y = s2 := by rw [hs2, hy]; rfl
              have hz1 := catS_size (L.take k)
              rw [List.length_take] at hz1
              have hz2 : s2.size ≤ 4 := by rw [hs2]; exact enc_size _
              obtain ⟨s3, hs3⟩ : ∃ s3, s3 = catS (L.take (k + 1)) := ⟨_, rfl⟩
              rw [← hs1] at hz1 ⊢
              have hadd : ∀ W, (Op.stringOp .add s1 s2).run Try.prog W = .ok (.string s3) W := fun W => by
                rw [hs3, htk, catS_snoc, ← hs1, ← hs2]
                exact run_string_add_sum W s1 s2 (by omega)
              have hkI : (k : Int) < nL := by omega
              have HW := Lib.hid (show wrap64 ((k : Int) + 1) = ((k + 1 : Nat) : Int) by unfold wrap64; omega)
              have HT := Lib.hid (⟨hs3, hkn⟩ : _ ∧ _)
              clear hS1 hDn hs hvr hnL hv1 hl1 hx hLk hxr htk hy hs1 hs2 hz1 hz2 hs3 hk hkn r0
              go_wp2
              go_round
              case rel => exact ⟨k + 1, by rw [HW.out], HT.out.2, by rw [HT.out.1]⟩
              case measure =>
                have h1 := HT.out.2
                rw [HW.out]
                simp only [intOf, Int.toNat_natCast]
                omega
            · have hkI : ¬ (k : Int) < nL := by omega
              rw [show L.take k = L from List.take_of_length_le (by omega), ← hs]
              have HQ := Lib.hid (⟨hS1.bl, hDn⟩ : _ ∧ _)
              clear hS1 hDn hs hvr hnL hk hkn
              go_wp2
              refine ⟨by simp, .inl ⟨_, _, rfl, run_takeDeferred HK.out, ?_⟩⟩
              exact ⟨_, results_tmp rfl _ _ _, rfl, HQ.out.1.grown (grownBy_putObj' W D (.deferred none)) HQ.out.1.size (fun k e => by cases e; exact HQ.out.2)⟩
        case stop =>
          rintro D c pre W _ _ h _
          exact h.elim
  · have hm200 : (100 : Int) < m := by omega
    clear hr hl hm
    go_enter Try.func4, Try.ntmps4
    go_wp2_with fail
    refine (awake_any _).mono ?_
    rintro e w1 ⟨rfl, hC1⟩
    have HC1 := Lib.hid hC1
    clear hC1
    go_wp2_with fail
    refine (awake_any _).mono ?_
    rintro e w2 ⟨rfl, hC2⟩
    have HC2 := Lib.hid (HC1.out.trans hC2 (fun _ _ => id))
    clear hC2
    go_wp2
    go_ret
    exact ⟨rfl, HC2.out.below (fun k hk => ⟨hk, id⟩)⟩
end Go.Proofs.Ythoagpagnldmeaa.S
namespace Go.Proofs.Ythoagpagnldmeaa
open Go.RowKit Go.Ps
theorem chainTexts_walk (A : Option Addr) (cap : Nat) (l : List (Int × Int × Int × Int)) (w : World) (hr : Reads4 w .i64 .i64 .i64 .i64 A l ∧ ∀ z ∈ l, (Lit.int .i64 z.1).wf = true ∧ (Lit.int .i64 z.2.1).wf = true ∧ (Lit.int .i64 z.2.2.1).wf = true ∧ (Lit.int .i64 z.2.2.2).wf = true) :
    Calls Try.prog 4 #[.slice A l.length cap] w fun e w' => e = .returned (.bool true) ∧ Below w.heap.size w w' := S.chainTexts_walk A cap l w hr
end Go.Proofs.Ythoagpagnldmeaa
