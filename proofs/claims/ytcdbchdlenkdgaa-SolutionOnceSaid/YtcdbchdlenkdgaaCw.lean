/- The laws CallsCut, CallsEncode: what both need. -/
import Derived.Test.YtcdbchdlenkdgaaCo
import Derived.Lib.SmallJoins
set_option linter.unusedVariables false
set_option linter.unusedSimpArgs false
namespace Go.Proofs.Ytcdbchdlenkdgaa
open Go.RowKit Go.Ps

theorem encC_len {x : C7} (hf : formedC x = true) : 2 ≤ (encC x).length ∧ (encC x).length ≤ 30000 := by
  have hft := of_decide_eq_true hf
  obtain ⟨_, _, _, _, _, f6, f7⟩ := hft
  have h1 := csz_le x.kind
  have h2 := csz_le x.who
  have h3 := encs_length ([x.a, x.b, x.c].take (nums x.kind))
  have h4 : ([x.a, x.b, x.c].take (nums x.kind)).length ≤ 3 := by rw [List.length_take]; exact Nat.le_trans (Nat.min_le_right _ _) (by simp)
  have h5 : (encT x).length ≤ 20100 := by
    unfold encT
    split
    · have := csz_le x.list.length
      have := encs_length x.list
      rw [if_pos (by assumption)] at f6
      unfold encL
      rw [List.length_append, enc_length]
      omega
    · split
      · have := csz_le x.bytes.length
        rw [if_pos (by assumption)] at f7
        rw [List.length_append, enc_length]
        omega
      · simp
  unfold encC
  simp only [List.length_append, enc_length]
  omega
theorem i64_of_wf {n : Int} (h : (Lit.int .i64 n).wf = true) : -9223372036854775808 ≤ n ∧ n ≤ 9223372036854775807 := by
  have := h
  simp [Lit.wf, IntKind.min, IntKind.max, IntKind.signed, IntKind.bits] at this
  omega
theorem map_add0 (A : Option Addr) : A = A.map (·.add 0) := by
  cases A with
  | none => rfl
  | some a =>
    obtain ⟨b, o, t⟩ := a
    simp only [Option.map_some, Addr.add]
    cases t <;> simp
/-- append(append([]byte{}, l...), x) -/
theorem app_new (W : World) (A : Option Addr) (n d : Nat) (l : List Int) (x : Int) (hr : ReadsI W .u8 A l) (hn : n = l.length) (hl : n ≤ 100000) :
    ∃ A9 n9 c9 w9 A10 n10 c10 w10, (Builtin.append_ #[22, 22] 22 #[.slice (some ⟨W.heap.size, 0, none⟩) 0 0, .slice A n d]).run Try.prog (W.alloc (.cells #[] 5)) = .ok (.slice A9 n9 c9) w9 ∧
      (Builtin.append_ #[22, 22] 22 #[.slice A9 n9 c9, .slice (some ⟨w9.heap.size, 0, none⟩) 1 1]).run Try.prog (w9.alloc (.cells #[.int .u8 x] 5)) = .ok (.slice A10 n10 c10) w10 ∧ NewB W w10 (.slice A10 n10 c10) (l ++ [x]) := by
  have h0 := new_lit W [] (by simp)
  obtain ⟨A9, c9, n9, w9, h1, h2⟩ := NewB.app (cB := d) h0 rfl hn.symm (hr.alloc _) (by simp; omega)
  rw [List.nil_append] at h2
  have hc := New.cap h2
  obtain ⟨A10, c10, w10, h3, h4⟩ := NewB.push h2 hc.1.symm x (by omega)
  exact ⟨A9, _, _, w9, A10, _, _, w10, h1, h3, h4⟩
/-- A call of the reference and where its slices lie. -/
structure C7m where
  x : C7
  A : Option Addr
  c : Nat
  B : Option Addr
  d : Nat
def C7m.v (z : C7m) : Value := cv z.x z.A z.c z.B z.d
section
open Go.Joins Go.WideShapes
variable {H : Type} {enc : TypeId × Value → H} {W : World} {base : Nat} {spare : Nat → Bool} {held : Bool}
theorem list7 {cs : List Value} (h : cs.length = 7) : ∃ v0 v1 v2 v3 v4 v5 v6, cs = [v0, v1, v2, v3, v4, v5, v6] := by
  match cs, h with
  | [v0, v1, v2, v3, v4, v5, v6], _ => exact ⟨v0, v1, v2, v3, v4, v5, v6, rfl⟩
theorem reads_of {P : Program} {t e : TypeId} {k : IntKind} {fuel : Nat} {v : Value} {x : DataW H × List MemPlace} (ht : P.underlying t = some (.slice e)) (he : P.underlying e = some (.int k)) (hc : P.cellsOf e = 1)
    (h : DataW.trod enc P W base spare held fuel t [v] = some x) : ∃ (A : Option Addr) (c : Nat) (zs : List Int), v = .slice A zs.length c ∧ zs.length ≤ c ∧ ReadsI W k A zs ∧ ∀ y ∈ zs, (Lit.int k y).wf = true := by
  have hs : ∃ A n c, v = .slice A n c := by
    rcases Go.ChangeShapes.open_ints ht he hc h with ⟨hcs, _⟩ | ⟨a, len, cap, zs, hcs, _⟩
    · simp only [List.cons.injEq, and_true] at hcs
      exact ⟨_, _, _, hcs⟩
    · simp only [List.cons.injEq, and_true] at hcs
      exact ⟨_, _, _, hcs⟩
  obtain ⟨A, n, c, rfl⟩ := hs
  have hT : DataW.Trod enc P W base spare held t (.slice A n c) x.1 x.2 := ⟨fuel, by simpa [Value.cells] using h⟩
  obtain ⟨zs, rfl, hr, hw⟩ := open_reads ht he hc hT
  exact ⟨A, c, zs, rfl, open_cap ht hT, hr, hw⟩
theorem open_call {r : Reach} {b0 : Nat} {v : Value} {d : DataW H} {p : List MemPlace} (hv : Value.okWide Try.prog W r b0 58 v) (h : DataW.Trod enc Try.prog W base spare held 58 v d p) :
    ∃ z : C7m, v = z.v ∧ z.x.ok ∧ ReadsI W .u64 z.A z.x.list ∧ ReadsI W .u8 z.B z.x.bytes ∧ z.x.list.length ≤ z.c ∧ z.x.bytes.length ≤ z.d := by
  obtain ⟨cs, rfl, hsz⟩ := okWide_struct Try.underlying58 hv
  obtain ⟨fuel, hf⟩ := h
  obtain ⟨xs, n, _, _, hl, hlen, hq⟩ := DataW.trod_struct Try.underlying58 hf
  have h7 : cs.toList.length = 7 := by rw [Array.length_toList, hsz]; kernel_rfl
  obtain ⟨v0, v1, v2, v3, v4, v5, v6, hcs⟩ := list7 h7
  obtain rfl : cs = #[v0, v1, v2, v3, v4, v5, v6] := by cases cs; simp_all
  have k3 : Try.prog.cellsOf 3 = 1 := by kernel_rfl
  have k24 : Try.prog.cellsOf 24 = 1 := by kernel_rfl
  have k29 : Try.prog.cellsOf 29 = 1 := by kernel_rfl
  have k22 : Try.prog.cellsOf 22 = 1 := by kernel_rfl
  have hx : ∃ y0 y1 y2 y3 y4 y5 y6, xs = [y0, y1, y2, y3, y4, y5, y6] := by
    match xs, hlen with
    | [y0, y1, y2, y3, y4, y5, y6], _ => exact ⟨y0, y1, y2, y3, y4, y5, y6, rfl⟩
  obtain ⟨y0, y1, y2, y3, y4, y5, y6, rfl⟩ := hx
  have q0 : DataW.trod enc Try.prog W base spare held n 3 [v0] = some y0 := by simpa [Value.cells, k3, k24, k29, k22] using hq 0 _ rfl
  have q1 : DataW.trod enc Try.prog W base spare held n 3 [v1] = some y1 := by simpa [Value.cells, k3, k24, k29, k22] using hq 1 _ rfl
  have q2 : DataW.trod enc Try.prog W base spare held n 24 [v2] = some y2 := by simpa [Value.cells, k3, k24, k29, k22] using hq 2 _ rfl
  have q3 : DataW.trod enc Try.prog W base spare held n 24 [v3] = some y3 := by simpa [Value.cells, k3, k24, k29, k22] using hq 3 _ rfl
  have q4 : DataW.trod enc Try.prog W base spare held n 24 [v4] = some y4 := by simpa [Value.cells, k3, k24, k29, k22] using hq 4 _ rfl
  have q5 : DataW.trod enc Try.prog W base spare held n 29 [v5] = some y5 := by simpa [Value.cells, k3, k24, k29, k22] using hq 5 _ rfl
  have q6 : DataW.trod enc Try.prog W base spare held n 22 [v6] = some y6 := by simpa [Value.cells, k3, k24, k29, k22] using hq 6 _ rfl
  obtain ⟨a0, e0, _, w0⟩ := DataW.trod_int Try.underlying3 q0
  obtain ⟨a1, e1, _, w1⟩ := DataW.trod_int Try.underlying3 q1
  obtain ⟨a2, e2, _, w2⟩ := DataW.trod_int Try.underlying24 q2
  obtain ⟨a3, e3, _, w3⟩ := DataW.trod_int Try.underlying24 q3
  obtain ⟨a4, e4, _, w4⟩ := DataW.trod_int Try.underlying24 q4
  simp only [List.cons.injEq, and_true] at e0 e1 e2 e3 e4
  subst e0 e1 e2 e3 e4
  obtain ⟨A, c, l, rfl, hc, hA, hwl⟩ := reads_of Try.underlying29 Try.underlying24 k24 q5
  obtain ⟨B, d2, m, rfl, hd, hB, hwm⟩ := reads_of Try.underlying22 Try.underlying5 (by kernel_rfl) q6
  refine ⟨⟨⟨a0, a1, a2, a3, a4, l, m⟩, A, c, B, d2⟩, rfl, ⟨?_, ?_, ?_, ?_, ?_, ?_, bytes_of_wf hwm⟩, hA, hB, hc, hd⟩
  · exact i64_of_wf w0
  · exact i64_of_wf w1
  · exact u64_of_wf w2
  · exact u64_of_wf w3
  · exact u64_of_wf w4
  · exact fun n hn => u64_of_wf (hwl n hn)
end
theorem theirs_any (z : C7m) (w : World) : Calls Try.prog 38 #[z.v] w (fun e w' => e = .returned z.v ∧ Chg (fun _ => False) w w') := by
  obtain ⟨⟨kind, who, a, b, e, list, bytes⟩, A, c, B, d⟩ := z
  unfold C7m.v cv
  simp only
  go_enter Try.func38, Try.ntmps38
  go_wp2
  exact bodyPost_ret (v := .agg #[.int .i64 kind, .int .i64 who, .int .u64 a, .int .u64 b, .int .u64 e, .slice A list.length c, .slice B bytes.length d]) (by simp [results, Try.results38, go_sem]) rfl ⟨rfl, ((Chg.refl _ _).alloc _).alloc _⟩
set_option maxHeartbeats 4000000 in
theorem callsCut_walk (z : C7m) (at_ more : Int) (w : World) (hz : z.x.ok ∧ ReadsI w .u64 z.A z.x.list ∧ ReadsI w .u8 z.B z.x.bytes ∧ z.x.list.length ≤ z.c ∧ z.x.bytes.length ≤ z.d) (ha : (Lit.int .u64 at_).wf = true) (hm : (Lit.int .u8 more).wf = true) :
    Calls Try.prog 14 #[z.v, .int .u64 at_, .int .u8 more] w fun e w' => e = .returned (.bool true) ∧ Below w.heap.size w w' := by
  have hth := fun W => theirs_any z W
  obtain ⟨⟨kind, who, a, b, e, list, bytes⟩, A, c, B, d⟩ := z
  unfold C7m.v at *
  obtain ⟨hok, hA, hB, hcA, hcB⟩ := hz
  have henc := fun W (h : Chg (fun _ => False) w W) => encode_any ⟨kind, who, a, b, e, list, bytes⟩ A c B d W hok (hA.chg h (fun _ _ => id)) (hB.chg h (fun _ _ => id))
  have hfl := fun h => encC_len (x := ⟨kind, who, a, b, e, list, bytes⟩) h
  have hdc := fun k hk hf => decC_cut (x := ⟨kind, who, a, b, e, list, bytes⟩) hok hf k hk
  have hdm := fun y hy hf => decC_more (x := ⟨kind, who, a, b, e, list, bytes⟩) hok hf y hy
  have hub := u64_of_wf ha
  have hmb : 0 ≤ more ∧ more ≤ 255 := by
    have := bytes_of_wf (l := [more]) (by simpa using hm) more (by simp)
    exact this
  unfold EncPost at henc
  obtain ⟨l, hl⟩ : ∃ l, l = encC ⟨kind, who, a, b, e, list, bytes⟩ := ⟨_, rfl⟩
  obtain ⟨F, hF⟩ : ∃ F, F = formedC ⟨kind, who, a, b, e, list, bytes⟩ := ⟨_, rfl⟩
  have hbl := encC_bytes hok
  rw [← hl] at henc hfl hdc hdm hbl
  rw [← hF] at henc hfl hdc hdm
  unfold cv at *
  simp only at *
  clear hl hF hok hA hB hcA hcB hm ha
  by_cases hl1 : 1000 < bytes.length
  · clear hfl hdc hdm henc hub hmb hth hbl
    go_enter Try.func14, Try.ntmps14
    go_wp2_with fail
    refine (awake22_any _).mono ?_
    rintro e1 w1 ⟨rfl, hC1⟩
    have hb := chg_heap hC1 (heap_alloc_at w (.cells #[.int .i64 kind, .int .i64 who, .int .u64 a, .int .u64 b, .int .u64 e, .slice A list.length c, .slice B bytes.length d] 58))
    obtain ⟨g, hg⟩ : ∃ g, g = w.heap.size := ⟨_, rfl⟩
    have hCw := chg_trans ((Chg.refl _ w).alloc _) hC1
    rw [← hg] at hb ⊢
    obtain ⟨c0, c1, c2, c3, c4, c5, c6⟩ := read7 hb
    have HC1 := Lib.hid hCw
    have HB1 := Lib.hid hb
    clear hb hC1 hCw hg
    go_wp2_with fail
    refine (awake22_any _).mono ?_
    rintro e2 w2 ⟨rfl, hC2⟩
    have HC2 := Lib.hid hC2
    clear hC2
    go_wp2
    go_ret
    exact ⟨rfl, chg_to_below (chg_trans HC1.out HC2.out)⟩
  · by_cases hl2 : 100 < list.length
    · clear hfl hdc hdm henc hub hmb hth hbl
      go_enter Try.func14, Try.ntmps14
      go_wp2_with fail
      refine (awake22_any _).mono ?_
      rintro e1 w1 ⟨rfl, hC1⟩
      have hb := chg_heap hC1 (heap_alloc_at w (.cells #[.int .i64 kind, .int .i64 who, .int .u64 a, .int .u64 b, .int .u64 e, .slice A list.length c, .slice B bytes.length d] 58))
      obtain ⟨g, hg⟩ : ∃ g, g = w.heap.size := ⟨_, rfl⟩
      have hCw := chg_trans ((Chg.refl _ w).alloc _) hC1
      rw [← hg] at hb ⊢
      obtain ⟨c0, c1, c2, c3, c4, c5, c6⟩ := read7 hb
      have HC1 := Lib.hid hCw
      have HB1 := Lib.hid hb
      clear hb hC1 hCw hg
      go_wp2_with fail
      refine (awake22_any _).mono ?_
      rintro e2 w2 ⟨rfl, hC2⟩
      have HC2 := Lib.hid hC2
      clear hC2
      go_wp2
      go_ret
      exact ⟨rfl, chg_to_below (chg_trans HC1.out HC2.out)⟩
    · cases F with
      | false =>
        clear hfl hdc hdm hub hmb hbl
        simp only [Bool.false_eq_true, if_false] at henc
        have HE := Lib.hid henc
        clear henc
        go_enter Try.func14, Try.ntmps14
        go_wp2_with fail
        refine (awake22_any _).mono ?_
        rintro e1 w1 ⟨rfl, hC1⟩
        have hb := chg_heap hC1 (heap_alloc_at w (.cells #[.int .i64 kind, .int .i64 who, .int .u64 a, .int .u64 b, .int .u64 e, .slice A list.length c, .slice B bytes.length d] 58))
        obtain ⟨g, hg⟩ : ∃ g, g = w.heap.size := ⟨_, rfl⟩
        have hCw := chg_trans ((Chg.refl _ w).alloc _) hC1
        rw [← hg] at hb ⊢
        obtain ⟨c0, c1, c2, c3, c4, c5, c6⟩ := read7 hb
        have HC1 := Lib.hid hCw
        have HB1 := Lib.hid hb
        clear hb hC1 hCw hg
        go_wp2_with fail
        refine (hth _).mono ?_
        rintro e2 w2 ⟨rfl, hC2⟩
        have hCC := chg_trans HC1.out hC2
        have henc := HE.out w2 hCC
        have HC2 := Lib.hid hCC
        have HENC := Lib.hid henc
        clear hC2 hCC henc
        go_wp2_with fail
        refine HENC.out.mono ?_
        rintro e4 w4 ⟨v4, rfl, hN4⟩
        obtain ⟨A4, n4, d4, rfl, hn4, hr4⟩ := New.form3 hN4
        have HC4 := Lib.hid hN4.2.1
        clear hN4 hn4 hr4
        go_wp2
        go_ret
        exact ⟨by simp, chg_to_below (chg_trans HC2.out HC4.out)⟩
      | true =>
        simp only [if_true, forall_const] at henc hfl hdc hdm
        obtain ⟨hn2, hn3⟩ := hfl
        have HE := Lib.hid henc
        have HDC := Lib.hid hdc
        have HDM := Lib.hid hdm
        have HBL := Lib.hid hbl
        clear henc hdc hdm hbl
        go_enter Try.func14, Try.ntmps14
        go_wp2_with fail
        refine (awake22_any _).mono ?_
        rintro e1 w1 ⟨rfl, hC1⟩
        have hb := chg_heap hC1 (heap_alloc_at w (.cells #[.int .i64 kind, .int .i64 who, .int .u64 a, .int .u64 b, .int .u64 e, .slice A list.length c, .slice B bytes.length d] 58))
        obtain ⟨g, hg⟩ : ∃ g, g = w.heap.size := ⟨_, rfl⟩
        have hCw := chg_trans ((Chg.refl _ w).alloc _) hC1
        rw [← hg] at hb ⊢
        obtain ⟨c0, c1, c2, c3, c4, c5, c6⟩ := read7 hb
        have HC1 := Lib.hid hCw
        have HB1 := Lib.hid hb
        clear hb hC1 hCw hg
        go_wp2_with fail
        refine (hth _).mono ?_
        rintro e2 w2 ⟨rfl, hC2⟩
        have hCC := chg_trans HC1.out hC2
        have henc := HE.out w2 hCC
        have HC2 := Lib.hid hCC
        have HENC := Lib.hid henc
        clear hC2 hCC henc
        go_wp2_with fail
        refine HENC.out.mono ?_
        rintro e4 w4 ⟨v4, rfl, hN4⟩
        obtain ⟨A4, n4, d4, rfl, hn4, hr4⟩ := New.form3 hN4
        have hcap := (New.cap hN4).2
        rw [← hn4] at hn2 hn3 hcap
        have hz4 : ((n4 : Int) == 0) = false := by simp; omega
        obtain ⟨j, hj⟩ : ∃ j : Nat, at_.tmod (n4 : Int) = j := ⟨(at_.tmod (n4 : Int)).toNat, (Int.toNat_of_nonneg (Int.tmod_nonneg _ hub.1)).symm⟩
        have hjn : j < n4 := by have := Int.tmod_lt_of_pos at_ (show (0 : Int) < n4 by omega); omega
        have hsub := hr4.sub 0 j (by omega) (A' := A4) (fun _ => map_add0 A4)
        rw [List.drop_zero] at hsub
        have hdec := decode_of w4 A4 d4 (l.take j) hsub (HBL.out.take j) (by rw [List.length_take]; omega) (by rw [List.length_take]; omega)
        rw [HDC.out j (by omega), List.length_take, ← hn4, Nat.min_eq_left (Nat.le_of_lt hjn)] at hdec
        unfold DecPost cv c7zero at hdec
        simp only [List.length_nil] at hdec
        have HD1 := Lib.hid hdec
        have HN4 := Lib.hid hN4
        have HR4 := Lib.hid hr4
        have H4 := Lib.hid hn4
        clear hN4 hn4 hr4 hdec hsub
        simp only []
        go_wp2_with fail
        refine HD1.out.mono ?_
        rintro e5 w5 ⟨A2, c2, B2, d2, rfl, hA2, hB2, hc2, hd2, hC2⟩
        have HC5 := Lib.hid hC2
        clear hA2 hB2 hc2 hd2 hC2
        have hC7 : Chg (fun _ => False) w4 (w5.alloc (.cells #[.int .i64 0, .int .i64 0, .int .u64 0, .int .u64 0, .int .u64 0, .slice A2 0 c2, .slice B2 0 d2] 60)) := HC5.out.alloc _
        have hsz : (w5.alloc (.cells #[.int .i64 0, .int .i64 0, .int .u64 0, .int .u64 0, .int .u64 0, .slice A2 0 c2, .slice B2 0 d2] 60)).heap.size = w5.heap.size + 1 := by simp
        have happ := fun (W : World) (hW : Chg (fun _ => False) w4 W) => app_new W A4 n4 d4 l more (HR4.out.chg hW (fun _ _ => id)) H4.out (by omega)
        obtain ⟨A9, n9, c9, w9, A10, n10, c10, w10, hrun9, hrun10, hN10⟩ := happ _ hC7
        rw [hsz] at hrun9
        have h10 := (New.cap hN10)
        obtain ⟨_, _, _, heq, hx10, hr10⟩ := New.form3 hN10
        cases heq
        have hdec := decode_of w10 A10 c10 (l ++ [more]) hr10 (HBL.out.append (by intro y hy; simp at hy; subst hy; exact hmb)) (by rw [List.length_append, ← H4.out]; simp; omega) h10.2
        rw [HDM.out more hmb, ← h10.1] at hdec
        unfold DecPost cv c7zero at hdec
        simp only [List.length_nil] at hdec
        have HD2 := Lib.hid hdec
        have HC10 := Lib.hid (chg_trans hC7 hN10.2.1)
        clear hC7 hsz happ hN10 h10 hr10 hx10 hdec
        simp only []
        go_wp2_with (first | (at_builtin; refine wpList_append_run rfl (.tmp 55) (.tmp 56) 22 rfl _ _ _ _ rfl rfl hrun9 ?_) | (at_builtin; refine wpList_append_run rfl (.tmp 57) (.tmp 59) 22 rfl _ _ _ _ rfl rfl hrun10 ?_))
        refine HD2.out.mono ?_
        rintro e11 w11 ⟨A3, c3, B3, d3, rfl, hA3, hB3, hc3, hd3, hC11⟩
        have HC11 := Lib.hid hC11
        clear hA3 hB3 hc3 hd3 hC11
        simp only []
        go_wp2
        go_ret
        exact ⟨by simp, chg_to_below (chg_trans HC2.out (chg_trans HN4.out.2.1 (chg_trans HC10.out (HC11.out.alloc _))))⟩
end Go.Proofs.Ytcdbchdlenkdgaa
