/- The laws CallsOnce, CallsCut: their walks. -/
import Derived.Test.YtcdbchdlenkdgaaCd
import Derived.Test.YtcdbchdlenkdgaaCe
import Derived.Test.YtcdbchdlenkdgaaL5
set_option linter.unusedVariables false
set_option linter.unusedSimpArgs false
namespace Go.Proofs.Ytcdbchdlenkdgaa
open Go.RowKit Go.Ps

theorem decode_of (w : World) (A : Option Addr) (c : Nat) (l : List Int) (hr : ReadsI w .u8 A l) (hb : Bytes l) (hl : l.length ≤ 20000000000) (hcap : l.length ≤ c) : Calls Try.prog 42 #[.slice A l.length c] w (DecPost (decC l) w) :=
  decode_any w A c l hr hb hl hcap (fun hne a ha => by
    obtain ⟨a', ha', hx⟩ := hr hne
    rw [ha'] at ha
    cases ha
    have h0 := World.block_lt_of_cell? w _ (hx 0 (List.length_pos_iff.2 hne))
    rwa [block_add] at h0)
def x0 : C7 := ⟨2, 1, 5, 0, 0, [], []⟩
theorem x0_ok : x0.ok := ⟨⟨by decide, by decide⟩, ⟨by decide, by decide⟩, ⟨by decide, by decide⟩, ⟨by decide, by decide⟩, ⟨by decide, by decide⟩, by simp [x0], by simp [x0, Bytes]⟩
theorem x0_formed : formedC x0 = true := by decide
theorem x0_enc : encC x0 = [8, 4, 20] := by decide
def AwPost (w : World) (e : Ending) (w' : World) : Prop := e = .returned (.bool true) ∧ Chg (fun _ => False) w w'
set_option maxHeartbeats 1000000 in
theorem awake22_any (w : World) : Calls Try.prog 36 #[] w (AwPost w) := by
  have h := encode_any x0 none 0 none 0 w x0_ok (fun h => absurd rfl h) (fun h => absurd rfl h)
  obtain ⟨S, hS⟩ : ∃ S, S = strOf [8, 4, 20] := ⟨_, rfl⟩
  have hl : S.toList = [8, 4, 20] := by rw [hS, strOf_toList]; rfl
  have HS := Lib.hid hS
  unfold EncPost at h
  rw [x0_formed, if_pos rfl, if_pos rfl, x0_enc] at h
  unfold cv x0 at h
  simp only [List.length_nil] at h
  clear hS
  go_enter Try.func36, Try.ntmps36
  go_wp2_with fail
  refine h.mono ?_
  rintro e1 w1 ⟨v, rfl, hN⟩
  obtain ⟨A2, n2, d2, rfl, hn2, hr2⟩ := New.form3 hN
  have hs2 : (convert 22 9 (.slice A2 n2 d2)).run Try.prog w1 = .ok (.string S) w1 := by
    rw [HS.out]
    exact str_at hr2 hn2 (Chg.refl _ _)
  have HC := Lib.hid hN.2.1
  clear hN h hn2 hr2
  simp only []
  go_wp2
  go_ret
  exact ⟨by simp, HC.out⟩
set_option maxHeartbeats 2000000 in
theorem callsOnce_walk (A : Option Addr) (c : Nat) (l : List Int) (w : World) (hr : ReadsI w .u8 A l) (hw : ∀ x ∈ l, (Lit.int .u8 x).wf = true) (hy : l.length * 1 ≤ 140737488351232) (hc : l.length ≤ c) :
    Calls Try.prog 15 #[.slice A l.length c] w fun e w' => e = .returned (.bool true) ∧ Below w.heap.size w w' := by
  have hb := bytes_of_wf hw
  have hl1 : l.length ≤ 140737488351232 := by omega
  by_cases hl : 21000 < l.length
  · clear hr hw hy hb
    go_enter Try.func15, Try.ntmps15
    go_wp2_with fail
    refine (awake22_any w).mono ?_
    rintro e1 w1 ⟨rfl, hC1⟩
    have HC1 := Lib.hid hC1
    clear hC1
    go_wp2_with fail
    refine (awake22_any w1).mono ?_
    rintro e2 w2 ⟨rfl, hC2⟩
    have HC2 := Lib.hid hC2
    clear hC2
    go_wp2
    go_ret
    exact ⟨rfl, chg_to_below (chg_trans HC1.out HC2.out)⟩
  · have hdec := fun W (hW : Chg (fun _ => False) w W) => decode_of W A c l (hr.chg hW (fun _ _ => id)) hb (by omega) hc
    have HR := Lib.hid hr
    have hiff := decC_iff hb
    have hcases := decC_err l
    obtain ⟨⟨x, e⟩, hx⟩ : ∃ r, r = decC l := ⟨_, rfl⟩
    rw [← hx] at hdec hcases
    by_cases he : e = 0
    · subst he
      obtain ⟨hok, hfo, hen⟩ := (hiff x).1 hx.symm
      have hfm := fun A2 c2 B2 d2 W => formed_any x A2 c2 B2 d2 W
      have henc := fun A2 c2 B2 d2 W ha hb2 => encode_any x A2 c2 B2 d2 W hok ha hb2
      obtain ⟨S, hS⟩ : ∃ S, S = strOf l := ⟨_, rfl⟩
      unfold EncPost at henc
      unfold BoolPost at hfm
      rw [hfo, hen, if_pos rfl, if_pos rfl] at henc
      rw [hfo] at hfm
      unfold DecPost at hdec
      unfold cv at hdec hfm henc
      simp only at hdec
      have HD := Lib.hid hdec
      have HE := Lib.hid henc
      have HF := Lib.hid hfm
      have HS := Lib.hid hS
      clear hr hw hy hb hdec hiff hcases hx hok hfo hen hfm henc hS
      go_enter Try.func15, Try.ntmps15
      go_wp2_with fail
      refine (awake22_any w).mono ?_
      rintro e1 w1 ⟨rfl, hC1⟩
      have HC1 := Lib.hid hC1
      clear hC1
      go_wp2_with fail
      refine (HD.out w1 HC1.out).mono ?_
      rintro e2 w2 ⟨A2, c2, B2, d2, rfl, hA2, hB2, hc2, hd2, hC2⟩
      have HC2 := Lib.hid (chg_trans hC2 ((Chg.refl (fun _ => False) w2).alloc (.cells #[.int .i64 x.kind, .int .i64 x.who, .int .u64 x.a, .int .u64 x.b, .int .u64 x.c, .slice A2 x.list.length c2, .slice B2 x.bytes.length d2] 60)))
      have hb3 := heap_alloc_at w2 (.cells #[.int .i64 x.kind, .int .i64 x.who, .int .u64 x.a, .int .u64 x.b, .int .u64 x.c, .slice A2 x.list.length c2, .slice B2 x.bytes.length d2] 60)
      have henc := HE.out A2 c2 B2 d2 (w2.alloc (.cells #[.int .i64 x.kind, .int .i64 x.who, .int .u64 x.a, .int .u64 x.b, .int .u64 x.c, .slice A2 x.list.length c2, .slice B2 x.bytes.length d2] 60)) (hA2.alloc _) (hB2.alloc _)
      have HENC := Lib.hid henc
      have HB3 := Lib.hid hb3
      clear hC2 hA2 hB2 hc2 hd2 henc hb3
      simp only []
      go_wp2_with fail
      refine HENC.out.mono ?_
      rintro e4 w4 ⟨v4, rfl, hN4⟩
      obtain ⟨A4, n4, d4, rfl, hn4, hr4⟩ := New.form3 hN4
      have hb4 := chg_heap hN4.2.1 HB3.out
      obtain ⟨c0, c1', c2', c3, c4, c5, c6⟩ := read7 hb4
      have hs4 : (convert 22 9 (.slice A4 n4 d4)).run Try.prog w4 = .ok (.string S) w4 := by
        rw [HS.out]
        exact str_at hr4 hn4 (Chg.refl _ _)
      have hs0 : (convert 22 9 (.slice A l.length c)).run Try.prog w4 = .ok (.string S) w4 := by
        rw [HS.out]
        exact str_at HR.out rfl (chg_trans HC1.out (chg_trans HC2.out hN4.2.1))
      have HC4 := Lib.hid hN4.2.1
      clear hN4 hn4 hr4 hb4
      simp only []
      go_wp2_with fail
      refine (HF.out A2 c2 B2 d2 w4).mono ?_
      rintro e5 w5 ⟨rfl, hC5⟩
      have HC5 := Lib.hid hC5
      clear hC5
      go_wp2
      go_ret
      exact ⟨by simp, chg_to_below (chg_trans HC1.out (chg_trans HC2.out (chg_trans HC4.out HC5.out)))⟩
    · have hz : (x, e) = (c7zero, 2) := by
        rcases hcases with h | h
        · exact absurd h he
        · exact h
      obtain ⟨rfl, rfl⟩ := Prod.mk.inj hz
      unfold DecPost cv c7zero at hdec
      simp only [List.length_nil] at hdec
      have HD := Lib.hid hdec
      clear hr hw hy hb hdec hiff hcases hx he hz
      go_enter Try.func15, Try.ntmps15
      go_wp2_with fail
      refine (awake22_any w).mono ?_
      rintro e1 w1 ⟨rfl, hC1⟩
      have HC1 := Lib.hid hC1
      clear hC1
      go_wp2_with fail
      refine (HD.out w1 HC1.out).mono ?_
      rintro e2 w2 ⟨A2, c2, B2, d2, rfl, hA2, hB2, hc2, hd2, hC2⟩
      have HC2 := Lib.hid hC2
      clear hC2 hA2 hB2 hc2 hd2
      simp only []
      go_wp2
      go_ret
      exact ⟨by simp, chg_to_below (chg_trans HC1.out (chg_trans HC2.out ((Chg.refl _ _).alloc _)))⟩
end Go.Proofs.Ytcdbchdlenkdgaa
