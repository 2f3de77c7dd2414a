/- A ledger is whole: the law's walk. -/
import Derived.Test.YtpndkelbchjkiaaLk5
import Derived.Deep.CutBlock
set_option linter.unusedVariables false
set_option linter.unusedSimpArgs false
namespace Go.Proofs.Ytpndkelbchjkiaa
open Go.RowKit Go.Ps
section
open Go.Joins Go.WideShapes
theorem open_script {H : Type} {enc : TypeId × Value → H} {W : World} {base : Nat} {spare : Nat → Bool} {held : Bool} {a : Option Addr} {len cap : Nat} {d : DataW H} {ps : List MemPlace} (h : DataW.Trod enc Try.prog W base spare held 47 (.slice a len cap) d ps) :
    ∃ zs : List (Int × Int × Int × Int), len = zs.length ∧ (Reads4 W .i64 .i64 .i64 .u64 a zs ∧ ∀ z ∈ zs, (Lit.int .i64 z.1).wf = true ∧ (Lit.int .i64 z.2.1).wf = true ∧ (Lit.int .i64 z.2.2.1).wf = true ∧ (Lit.int .u64 z.2.2.2).wf = true) :=
  open_reads4 Try.underlying47 Try.underlying53 (by kernel_rfl) rfl rfl rfl rfl (by kernel_rfl) (by kernel_rfl) (by kernel_rfl) (by kernel_rfl) Try.underlying3 Try.underlying3 Try.underlying3 Try.underlying24 h
end
/-- A whole ledger of n accounts, the law's own. -/
def Wh (w0 : World) (g : Nat) (V : Value) (n : Nat) (I : Int) (W : World) : Prop :=
  ∃ s L, LS 64 34 38 S.hd W g V L s ∧ s.Inv ∧ s.iss = I ∧ s.acc.length = n ∧ Chg (fun _ => False) w0 W ∧ ∀ k, Mine g V L k → w0.heap.size ≤ k
theorem Wh.keep {w0 W W' : World} {g : Nat} {V : Value} {n : Nat} {I : Int} (h : Wh w0 g V n I W) (hC : Chg (fun _ => False) W W') : Wh w0 g V n I W' := by
  obtain ⟨s, L, h1, h2, h3, h4, h5, h6⟩ := h
  exact ⟨s, L, h1.keep hC, h2, h3, h4, h5.trans hC (fun _ _ h => h), h6⟩
/-- A call that takes the ledger on. -/
theorem Wh.of {w0 W W' : World} {g : Nat} {V : Value} {n : Nat} {L : List Row} {s s' : S} {I : Int} (hC : Chg (fun _ => False) w0 W) (hM : ∀ k, Mine g V L k → w0.heap.size ≤ k) (hS : Stp 64 34 38 S.hd W W' g V L s') (hI : s'.Inv) (hi : s'.iss = I) (hn : s'.acc.length = n) : Wh w0 g V n I W' := by
  obtain ⟨L', h1, h2, h3, h4⟩ := hS
  exact ⟨s', L', h1, hI, hi, hn, hC.trans h3 (fun k hk e => by have := hM k e; omega), fun k hk => (h4 k hk).elim (hM k) (fun h => Nat.le_trans hC.size h)⟩
theorem wh_unbond {w0 W : World} {g : Nat} {V : Value} {n : Nat} {I : Int} (h : Wh w0 g V n I W) (a b x : Int) (hx : U64 x) :
    Calls Try.prog 11 #[.pointer (some ⟨g, 0, none⟩), .int .i64 a, .int .u64 x, .int .i64 b] W fun e w' => ∃ v, e = .returned v ∧ Wh w0 g V n I w' := by
  obtain ⟨s, L, h1, h2, h3, h4, h5, h6⟩ := h
  have hk := unbond_inv h2 a x b hx.1
  refine (unbond_any h1 h2.U a x b hx (by have := h2.few a; omega) (h2.srt a)).mono ?_
  rintro e w' ⟨rfl, hS⟩
  exact ⟨_, rfl, Wh.of (s := s) h5 h6 hS hk.1 (hk.2.1.trans h3) (hk.2.2.trans h4)⟩
theorem wh_withdraw {w0 W : World} {g : Nat} {V : Value} {n : Nat} {I : Int} (h : Wh w0 g V n I W) (a b x : Int) (hx : U64 x) :
    Calls Try.prog 13 #[.pointer (some ⟨g, 0, none⟩), .int .i64 a, .int .i64 b] W fun e w' => ∃ v, e = .returned v ∧ Wh w0 g V n I w' := by
  obtain ⟨s, L, h1, h2, h3, h4, h5, h6⟩ := h
  have hk := withdraw_inv h2 a b
  refine (withdraw_any h1 a b (by have := h2.few a; omega)).mono ?_
  rintro e w' ⟨rfl, hS⟩
  exact ⟨_, rfl, Wh.of (s := s) h5 h6 hS hk.1 (hk.2.1.trans h3) (hk.2.2.trans h4)⟩
theorem wh_slash {w0 W : World} {g : Nat} {V : Value} {n : Nat} {I : Int} (h : Wh w0 g V n I W) (a b x : Int) (hx : U64 x) :
    Calls Try.prog 15 #[.pointer (some ⟨g, 0, none⟩), .int .i64 a, .int .u64 x] W fun e w' => ∃ v, e = .returned v ∧ Wh w0 g V n I w' := by
  obtain ⟨s, L, h1, h2, h3, h4, h5, h6⟩ := h
  have hk := slash_inv h2 a x hx
  refine (slash_any h1 h2.U h2.C a x hx).mono ?_
  rintro e w' ⟨rfl, hS⟩
  exact ⟨_, rfl, Wh.of (s := s) h5 h6 hS hk.1 (hk.2.1.trans h3) (hk.2.2.trans h4)⟩
theorem wh_transfer {w0 W : World} {g : Nat} {V : Value} {n : Nat} {I : Int} (h : Wh w0 g V n I W) (a b x : Int) (hx : U64 x) :
    Calls Try.prog 21 #[.pointer (some ⟨g, 0, none⟩), .int .i64 a, .int .i64 b, .int .u64 x] W fun e w' => ∃ v, e = .returned v ∧ Wh w0 g V n I w' := by
  obtain ⟨s, L, h1, h2, h3, h4, h5, h6⟩ := h
  have hk := transfer_inv h2 a b x hx.1
  refine (transfer_any h1 h2.U a b x hx).mono ?_
  rintro e w' ⟨rfl, hS⟩
  exact ⟨_, rfl, Wh.of (s := s) h5 h6 hS hk.1 (hk.2.1.trans h3) (hk.2.2.trans h4)⟩
theorem wh_bond {w0 W : World} {g : Nat} {V : Value} {n : Nat} {I : Int} (h : Wh w0 g V n I W) (a b x : Int) (hx : U64 x) :
    Calls Try.prog 10 #[.pointer (some ⟨g, 0, none⟩), .int .i64 a, .int .u64 x] W fun e w' => ∃ v, e = .returned v ∧ Wh w0 g V n I w' := by
  obtain ⟨s, L, h1, h2, h3, h4, h5, h6⟩ := h
  have hk := bond_inv h2 a x hx.1
  refine (bond_any h1 h2.U a x hx).mono ?_
  rintro e w' ⟨rfl, hS⟩
  exact ⟨_, rfl, Wh.of (s := s) h5 h6 hS hk.1 (hk.2.1.trans h3) (hk.2.2.trans h4)⟩
theorem wh_deposit {w0 W : World} {g : Nat} {V : Value} {n : Nat} {I : Int} (h : Wh w0 g V n I W) (a b x : Int) (hx : U64 x) :
    Calls Try.prog 22 #[.pointer (some ⟨g, 0, none⟩), .int .i64 a, .int .u64 x] W fun e w' => ∃ v, e = .returned v ∧ Wh w0 g V n I w' := by
  obtain ⟨s, L, h1, h2, h3, h4, h5, h6⟩ := h
  have hk := deposit_inv h2 a x hx.1
  refine (deposit_any h1 h2.U a x hx).mono ?_
  rintro e w' ⟨rfl, hS⟩
  exact ⟨_, rfl, Wh.of (s := s) h5 h6 hS hk.1 (hk.2.1.trans h3) (hk.2.2.trans h4)⟩
theorem wh_release {w0 W : World} {g : Nat} {V : Value} {n : Nat} {I : Int} (h : Wh w0 g V n I W) (a b x : Int) (hx : U64 x) :
    Calls Try.prog 23 #[.pointer (some ⟨g, 0, none⟩), .int .i64 a, .int .u64 x] W fun e w' => ∃ v, e = .returned v ∧ Wh w0 g V n I w' := by
  obtain ⟨s, L, h1, h2, h3, h4, h5, h6⟩ := h
  have hk := release_inv h2 a x hx.1
  refine (release_any h1 h2.U a x hx).mono ?_
  rintro e w' ⟨rfl, hS⟩
  exact ⟨_, rfl, Wh.of (s := s) h5 h6 hS hk.1 (hk.2.1.trans h3) (hk.2.2.trans h4)⟩
theorem wh_forfeit {w0 W : World} {g : Nat} {V : Value} {n : Nat} {I : Int} (h : Wh w0 g V n I W) (a b x : Int) (hx : U64 x) :
    Calls Try.prog 24 #[.pointer (some ⟨g, 0, none⟩), .int .i64 a, .int .u64 x] W fun e w' => ∃ v, e = .returned v ∧ Wh w0 g V n I w' := by
  obtain ⟨s, L, h1, h2, h3, h4, h5, h6⟩ := h
  have hk := forfeit_inv h2 a x hx.1
  refine (forfeit_any h1 h2.U a x hx).mono ?_
  rintro e w' ⟨rfl, hS⟩
  exact ⟨_, rfl, Wh.of (s := s) h5 h6 hS hk.1 (hk.2.1.trans h3) (hk.2.2.trans h4)⟩
theorem wh_pay {w0 W : World} {g : Nat} {V : Value} {n : Nat} {I : Int} (h : Wh w0 g V n I W) (a b x : Int) (hx : U64 x) :
    Calls Try.prog 25 #[.pointer (some ⟨g, 0, none⟩), .int .i64 a, .int .u64 x] W fun e w' => ∃ v, e = .returned v ∧ Wh w0 g V n I w' := by
  obtain ⟨s, L, h1, h2, h3, h4, h5, h6⟩ := h
  have hk := pay_inv h2 a x hx.1
  refine (pay_any h1 h2.U a x hx).mono ?_
  rintro e w' ⟨rfl, hS⟩
  exact ⟨_, rfl, Wh.of (s := s) h5 h6 hS hk.1 (hk.2.1.trans h3) (hk.2.2.trans h4)⟩
theorem wh_keep {w0 W : World} {g : Nat} {V : Value} {n : Nat} {I : Int} (h : Wh w0 g V n I W) (a b x : Int) (hx : U64 x) :
    Calls Try.prog 26 #[.pointer (some ⟨g, 0, none⟩), .int .u64 x] W fun e w' => ∃ v, e = .returned v ∧ Wh w0 g V n I w' := by
  obtain ⟨s, L, h1, h2, h3, h4, h5, h6⟩ := h
  have hk := keep_inv h2 x hx.1
  refine (keep_any h1 h2.U x hx).mono ?_
  rintro e w' ⟨rfl, hS⟩
  exact ⟨_, rfl, Wh.of (s := s) h5 h6 hS hk.1 (hk.2.1.trans h3) (hk.2.2.trans h4)⟩
theorem wh_mint {w0 W0 W : World} {g : Nat} {V : Value} {n : Nat} {I : Int} (h : Wh w0 g V n I W0) (hC : Chg (fun _ => False) W0 W) (x : Int) (hx : U64 x) :
    Calls Try.prog 20 #[.pointer (some ⟨g, 0, none⟩), .int .u64 x] W fun e w' => ∃ r, e = .returned (.int .i64 r) ∧ Wh w0 g V n (if r = 0 then I + x else I) w' ∧ (r = 0 → IntKind.u64.wrap (I + x) = I + x) ∧ ∀ k o, W0.heap.size ≤ k → W.heap[k]? = some o → w'.heap[k]? = some o := by
  obtain ⟨s, L, h1, h2, h3, h4, h5, h6⟩ := h
  have hk := mint_inv h2 x hx.1
  have hi := h2.iss
  refine (mint_any (h1.keep hC) h2.iss x hx).mono ?_
  rintro e w' ⟨rfl, hS⟩
  refine ⟨_, rfl, Wh.of (s := s) (h5.trans hC (fun _ _ h => h)) h6 hS hk.1 (hk.2.1.trans (by rw [h3])) (hk.2.2.1.trans h4), fun hr => ?_, fun k o hk ho => hS.other (fun e => by have := h1.at_.mine_lt e; omega) ho⟩
  have := hk.2.2.2 hr
  rw [h3] at this hi
  unfold U64 at hi hx
  rw [wrap64u]
  omega
theorem wh_iss {w0 W : World} {g : Nat} {V : Value} {n : Nat} {I : Int} (h : Wh w0 g V n I W) : Calls Try.prog 14 #[.pointer (some ⟨g, 0, none⟩)] W fun e w' => e = .returned (.int .u64 I) ∧ W = w' := by
  obtain ⟨s, L, h1, h2, h3, _⟩ := h
  have := iss_any h1
  rw [h3] at this
  exact this
theorem wh_all {w0 W : World} {g : Nat} {V : Value} {n : Nat} {I : Int} (h : Wh w0 g V n I W) (hn : n ≤ 1000) : Calls Try.prog 27 #[.pointer (some ⟨g, 0, none⟩)] W fun e w' => e = .returned (.int .u64 I) ∧ Chg (fun _ => False) W w' := by
  obtain ⟨s, L, h1, h2, h3, h4, _⟩ := h
  have := all_any h1 h2 (by omega)
  rw [h3] at this
  exact this
/-- What an account of a whole ledger tells. -/
theorem wh_account {w0 W : World} {g : Nat} {V : Value} {n : Nat} {I : Int} (h : Wh w0 g V n I W) {i : Nat} (hi : i < n) : Calls Try.prog 12 #[.pointer (some ⟨g, 0, none⟩), .int .i64 i] W fun e w' => ∃ f b d A c ch, e = .returned (.tuple #[.agg #[.int .u64 f, .int .u64 b, .int .u64 d, .slice A ch.length c], .bool true]) ∧ Chg (fun _ => False) W w' ∧ OwnF w' 38 2 fch (.slice A ch.length c) ch ∧ ch.length ≤ 8 ∧ (∀ x ∈ ch, 0 < x.1) ∧ Srt ch := by
  obtain ⟨s, L, h1, h2, h3, h4, _⟩ := h
  have hil : i < s.acc.length := by omega
  have hac := account_any h1 i (by have := h2.few i; omega)
  unfold AccPost at hac
  simp only [if_neg (show ¬ s.bad i by unfold S.bad; omega), Int.toNat_natCast] at hac
  have hok := h2.toNn.acc hil
  refine hac.mono ?_
  rintro e w' ⟨A, c, rfl, hN⟩
  exact ⟨_, _, _, A, c, _, rfl, hN.2.1, hN.1, hok.n, hok.c, srt_of hok.e⟩
theorem reads4_chg0 {w w' : World} {q0 q1 q2 q3 : IntKind} {A : Option Addr} {l : List (Int × Int × Int × Int)} (h : Reads4 w q0 q1 q2 q3 A l) (hc : Chg (fun _ => False) w w') : Reads4 w' q0 q1 q2 q3 A l := h.below (hc.below (fun k hk => ⟨hk, id⟩))
set_option maxRecDepth 20000 in
set_option maxHeartbeats 8000000 in
theorem ledgerWhole_walk (A : Option Addr) (c : Nat) (bl : List Int) (B : Option Addr) (d : Nat) (l : List (Int × Int × Int × Int)) (w : World) (hr : ReadsI w .u64 A bl) (hw : ∀ x ∈ bl, (Lit.int .u64 x).wf = true) (hy : bl.length * 8 ≤ 140737488351232)
    (hs : Reads4 w .i64 .i64 .i64 .u64 B l ∧ ∀ z ∈ l, (Lit.int .i64 z.1).wf = true ∧ (Lit.int .i64 z.2.1).wf = true ∧ (Lit.int .i64 z.2.2.1).wf = true ∧ (Lit.int .u64 z.2.2.2).wf = true) :
    Calls Try.prog 6 #[.slice A bl.length c, .slice B l.length d] w fun e w' => e = .returned (.bool true) ∧ Below w.heap.size w w' := by
  have hbU : AllU bl := fun x hx => by have := hw x hx; unfold U64; simp [Lit.wf, IntKind.min, IntKind.max, IntKind.signed, IntKind.bits] at this; omega
  have hxU : ∀ k, k < l.length → U64 (l.getD k d4).2.2.2 := fun k hk => by
    have hm : l.getD k d4 ∈ l := by
      rw [List.getD_eq_getElem?_getD, List.getElem?_eq_getElem hk]
      exact List.getElem_mem hk
    have := (hs.2 _ hm).2.2.2
    generalize l.getD k d4 = z at this
    unfold U64; simp [Lit.wf, IntKind.min, IntKind.max, IntKind.signed, IntKind.bits] at this; omega
  have hs := hs.1
  obtain ⟨n, hn⟩ : ∃ n, n = bl.length := ⟨_, rfl⟩
  obtain ⟨m, hm⟩ : ∃ m, m = l.length := ⟨_, rfl⟩
  rw [← hn, ← hm]
  have hbig : ∀ (n m : Nat), (32 < n ∨ 200 < m) → Calls Try.prog 6 #[.slice A n c, .slice B m d] w fun e w' => e = .returned (.bool true) ∧ Below w.heap.size w w' := by
    intro n m h
    clear hr hw hy hbU hxU hs hn hm
    by_cases h1 : 32 < n
    · clear h
      go_enter Try.func6, Try.ntmps6
      go_wp2_with fail
      refine (awake_any _).mono ?_
      rintro e w1 ⟨rfl, hC⟩
      have HC := Lib.hid hC
      clear hC
      go_wp2_with fail
      refine (awake_any _).mono ?_
      rintro e w2 ⟨rfl, hC⟩
      have HC2 := Lib.hid hC
      clear hC
      go_wp2
      go_ret
      exact ⟨rfl, (HC.out.trans HC2.out (fun _ _ h => h)).below (fun k hk => ⟨hk, id⟩)⟩
    · have h2 : 200 < m := by omega
      clear h
      go_enter Try.func6, Try.ntmps6
      go_wp2_with fail
      refine (awake_any _).mono ?_
      rintro e w1 ⟨rfl, hC⟩
      have HC := Lib.hid hC
      clear hC
      go_wp2_with fail
      refine (awake_any _).mono ?_
      rintro e w2 ⟨rfl, hC⟩
      have HC2 := Lib.hid hC
      clear hC
      go_wp2
      go_ret
      exact ⟨rfl, (HC.out.trans HC2.out (fun _ _ h => h)).below (fun k hk => ⟨hk, id⟩)⟩
  by_cases h32 : 32 < n
  · exact hbig n m (.inl h32)
  by_cases h200 : 200 < m
  · exact hbig n m (.inr h200)
  have HH := Lib.hid (⟨hr, hbU, hxU, hs, hn, hm⟩ : _ ∧ _ ∧ _ ∧ _ ∧ _ ∧ _)
  clear hr hw hy hbU hxU hs hn hm hbig
  go_enter Try.func6, Try.ntmps6
  go_wp2_with fail
  refine (awake_any _).mono ?_
  rintro e w1 ⟨rfl, hC⟩
  have HC := Lib.hid hC
  clear hC
  go_wp2_with fail
  have hnew := by
    obtain ⟨hr, hbU, hxU, hs, hn, hm⟩ := HH.out
    exact new_any bl w1 A c (hr.chg HC.out (fun _ _ => id)) (by omega) hbU
  rw [← HH.out.2.2.2.2.1] at hnew
  refine hnew.mono ?_
  intro e w2 hN
  by_cases hsu : (sumU 0 bl).2 = 0
  · obtain ⟨hr, hbU, hxU, hs, hn, hm⟩ := HH.out
    obtain ⟨g, V, rfl, hL, hC2, hM⟩ := new_ls (by omega) hsu hN
    have HW : Hid (Wh w g V n (sumU 0 bl).1 w2) := Lib.hid ⟨_, _, hL, new_inv hbU hsu, rfl, by simp [hn], HC.out.trans hC2 (fun _ _ h => h), fun k hk => by have := hM k hk; have := HC.out.size; omega⟩
    obtain ⟨I, hI⟩ : ∃ I, I = (sumU 0 bl).1 := ⟨_, rfl⟩
    rw [← hI] at HW
    clear hr hbU hxU hs hn hm hL hC2 hM hN hsu hI hnew
    go_wp2
    go_loopw [36] (fun i wr => ∃ k : Nat, k ≤ m ∧ i = .int .i64 k ∧ Hid (∃ I, Wh w g V n I wr)) (fun i _ => m - (intOf i).toNat)
    case atStart => exact ⟨0, by omega, rfl, Lib.hid ⟨I, HW.out⟩⟩
    case round =>
      obtain ⟨k, hk, rfl, HK⟩ := hrel
      by_cases hk2 : k < m
      · obtain ⟨hr, hbU, hxU, hs, hn, hm⟩ := HH.out
        obtain ⟨J, hJ⟩ := HK.out
        have hJ' := hJ
        obtain ⟨_, _, _, _, _, _, hCw, _⟩ := hJ'
        obtain ⟨b0, o0, rfl, _, hcells⟩ := (reads4_chg0 hs hCw) (by rintro rfl; simp at hm; omega)
        obtain ⟨c0, c1, c2, c3⟩ := hcells k (by omega)
        have hx := hxU k (by omega)
        obtain ⟨z, hz⟩ : ∃ z, z = l.getD k d4 := ⟨_, rfl⟩
        rw [← hz] at c0 c1 c2 c3 hx
        obtain ⟨kd, a, b, x⟩ := z
        simp only at c0 c1 c2 c3 hx
        have HJ := Lib.hid hJ
        have HX := Lib.hid hx
        clear hr hbU hxU hs hn hm hJ hCw hcells hx hz
        have kq : (wr.alloc (.cells #[.int .i64 kd, .int .i64 a, .int .i64 b, .int .u64 x] 53)).heap[wr.heap.size]? = some (.cells #[.int .i64 kd, .int .i64 a, .int .i64 b, .int .u64 x] 53 (0, 0)) := heap_alloc_at _ _
        obtain ⟨q, hq⟩ : ∃ q, q = wr.heap.size := ⟨_, rfl⟩
        obtain ⟨W1, hW1⟩ : ∃ W, W = wr.alloc (.cells #[.int .i64 kd, .int .i64 a, .int .i64 b, .int .u64 x] 53) := ⟨_, rfl⟩
        rw [← hq, ← hW1] at kq
        obtain ⟨x0, x1, x2, x3⟩ := read4 kq
        have HW1 := Lib.hid (⟨hW1, hq⟩ : _ ∧ _)
        have HJ1 : Hid (Wh w g V n J W1) := Lib.hid (by rw [hW1]; exact HJ.out.keep ((Chg.refl _ _).alloc _))
        have his := wh_iss HJ1.out
        have KQ := Lib.hid kq
        clear kq hW1 hq
        go_wp2_with fail
        rw [← HW1.out.1, ← HW1.out.2]
        refine his.mono ?_
        rintro e w3 ⟨rfl, rfl⟩
        clear his
        go_upto_block 2 with fail
        go_cut [9] from 47 to 139 (fun s9 wx => ∃ I, s9 = .int .u64 I ∧ Hid (Wh w g V n I wx))
        case first =>
          by_cases k3 : kd = 3
          · subst k3
            have hc := wh_unbond HJ1.out a b x HX.out
            go_wp2_with fail
            refine hc.mono ?_
            rintro e w4 ⟨v, rfl, hv⟩
            have HV := Lib.hid hv
            clear hv hc
            go_wp2
            go_meet
            exact ⟨J, rfl, HV⟩
          by_cases k4 : kd = 4
          · subst k4
            have hc := wh_withdraw HJ1.out a b x HX.out
            go_wp2_with fail
            refine hc.mono ?_
            rintro e w4 ⟨v, rfl, hv⟩
            have HV := Lib.hid hv
            clear hv hc
            go_wp2
            go_meet
            exact ⟨J, rfl, HV⟩
          by_cases k11 : kd = 11
          · subst k11
            have hc := wh_slash HJ1.out a b x HX.out
            go_wp2_with fail
            refine hc.mono ?_
            rintro e w4 ⟨v, rfl, hv⟩
            have HV := Lib.hid hv
            clear hv hc
            go_wp2
            go_meet
            exact ⟨J, rfl, HV⟩
          by_cases k1 : kd = 1
          · subst k1
            have hc := wh_transfer HJ1.out a b x HX.out
            go_wp2_with fail
            refine hc.mono ?_
            rintro e w4 ⟨v, rfl, hv⟩
            have HV := Lib.hid hv
            clear hv hc
            go_wp2
            go_meet
            exact ⟨J, rfl, HV⟩
          by_cases k2 : kd = 2
          · subst k2
            have hc := wh_bond HJ1.out a b x HX.out
            go_wp2_with fail
            refine hc.mono ?_
            rintro e w4 ⟨v, rfl, hv⟩
            have HV := Lib.hid hv
            clear hv hc
            go_wp2
            go_meet
            exact ⟨J, rfl, HV⟩
          by_cases k5 : kd = 5
          · subst k5
            have hc := wh_deposit HJ1.out a b x HX.out
            go_wp2_with fail
            refine hc.mono ?_
            rintro e w4 ⟨v, rfl, hv⟩
            have HV := Lib.hid hv
            clear hv hc
            go_wp2
            go_meet
            exact ⟨J, rfl, HV⟩
          by_cases k6 : kd = 6
          · subst k6
            have hc := wh_release HJ1.out a b x HX.out
            go_wp2_with fail
            refine hc.mono ?_
            rintro e w4 ⟨v, rfl, hv⟩
            have HV := Lib.hid hv
            clear hv hc
            go_wp2
            go_meet
            exact ⟨J, rfl, HV⟩
          by_cases k7 : kd = 7
          · subst k7
            have hc := wh_forfeit HJ1.out a b x HX.out
            go_wp2_with fail
            refine hc.mono ?_
            rintro e w4 ⟨v, rfl, hv⟩
            have HV := Lib.hid hv
            clear hv hc
            go_wp2
            go_meet
            exact ⟨J, rfl, HV⟩
          by_cases k9 : kd = 9
          · subst k9
            have hc := wh_pay HJ1.out a b x HX.out
            go_wp2_with fail
            refine hc.mono ?_
            rintro e w4 ⟨v, rfl, hv⟩
            have HV := Lib.hid hv
            clear hv hc
            go_wp2
            go_meet
            exact ⟨J, rfl, HV⟩
          by_cases k10 : kd = 10
          · subst k10
            have hc := wh_keep HJ1.out a b x HX.out
            go_wp2_with fail
            refine hc.mono ?_
            rintro e w4 ⟨v, rfl, hv⟩
            have HV := Lib.hid hv
            clear hv hc
            go_wp2
            go_meet
            exact ⟨J, rfl, HV⟩
          by_cases k8 : kd = 8
          · subst k8
            have hc := wh_mint HJ.out (W := W1) (by rw [HW1.out.1]; exact (Chg.refl _ _).alloc _) x HX.out
            go_wp2_with fail
            refine hc.mono ?_
            rintro e w4 ⟨r, rfl, hv, hr, hq4⟩
            have y3 := cell_of (hq4 q _ (by rw [HW1.out.2]; exact Nat.le_refl _) KQ.out) 3 rfl
            clear hq4 x3
            by_cases h0 : r = 0
            · subst h0
              have hr := hr rfl
              rw [if_pos rfl] at hv
              have HV := Lib.hid hv
              clear hv hc
              go_wp2
              go_meet
              exact ⟨J + x, rfl, HV⟩
            · rw [if_neg h0] at hv
              have HV := Lib.hid hv
              clear hv hc hr
              go_wp2
              go_meet
              exact ⟨J, rfl, HV⟩
          go_wp2
          go_meet
          exact ⟨J, rfl, HJ1⟩
        case rest =>
          obtain ⟨I, rfl, HI⟩ := hcut
          clear x0 x1 x2 x3 c0 c1 c2 c3
          have hall := wh_all HI.out (by omega)
          go_wp2_with fail
          refine hall.mono ?_
          rintro e w5 ⟨rfl, hC5⟩
          have HI5 := Lib.hid (HI.out.keep hC5)
          have his := wh_iss HI5.out
          clear hall hC5
          go_wp2_with fail
          refine his.mono ?_
          rintro e w6 ⟨rfl, rfl⟩
          clear his
          go_wp2
          go_loopw [152] (fun i wr => ∃ t : Nat, t ≤ n ∧ i = .int .i64 t ∧ Hid (Wh w g V n I wr)) (fun i _ => n - (intOf i).toNat)
          case atStart => exact ⟨0, by omega, rfl, HI5⟩
          case round =>
            obtain ⟨t, ht, rfl, HT⟩ := hrel
            by_cases ht2 : t < n
            · have hac := wh_account HT.out ht2
              go_wp2_with fail
              refine hac.mono ?_
              rintro e w7 ⟨af, ab, ad, A7, c7, ch, rfl, hC7, hO7, hl7, hp7, hs7⟩
              obtain ⟨cn, hcn⟩ : ∃ x, x = ch.length := ⟨_, rfl⟩
              rw [← hcn] at hO7 hl7 ⊢
              have k7 : (w7.alloc (.cells #[.int .u64 af, .int .u64 ab, .int .u64 ad, .slice A7 cn c7] 34)).heap[w7.heap.size]? = some (.cells #[.int .u64 af, .int .u64 ab, .int .u64 ad, .slice A7 cn c7] 34 (0, 0)) := heap_alloc_at _ _
              have hC7' : Chg (fun _ => False) _ (w7.alloc (.cells #[.int .u64 af, .int .u64 ab, .int .u64 ad, .slice A7 cn c7] 34)) := hC7.alloc _
              have hO7' := hO7.chg ((Chg.refl (fun _ => False) w7).alloc (.cells #[.int .u64 af, .int .u64 ab, .int .u64 ad, .slice A7 cn c7] 34)) (fun _ _ => id)
              obtain ⟨W7, hW7⟩ : ∃ W, W = w7.alloc (.cells #[.int .u64 af, .int .u64 ab, .int .u64 ad, .slice A7 cn c7] 34) := ⟨_, rfl⟩
              obtain ⟨q7, hq7⟩ : ∃ q, q = w7.heap.size := ⟨_, rfl⟩
              rw [← hW7] at k7 hC7' hO7'
              rw [← hq7] at k7
              have x3 := (read4 k7).2.2.2
              have HW7 := Lib.hid (⟨hW7, hq7⟩ : _ ∧ _)
              have HR := Lib.hid (⟨HT.out.keep hC7', hO7', hp7, hs7, hcn, k7⟩ : _ ∧ _ ∧ _ ∧ _ ∧ _ ∧ _)
              clear hC7 hO7 k7 hC7' hO7' hW7 hq7 hac hp7 hs7 hcn
              go_upto_region 41 with (fail)
              rw [← HW7.out.1, ← HW7.out.2]
              go_wp2
              go_loopw [164] (fun i wr => ∃ r : Nat, r ≤ cn ∧ i = .int .i64 r ∧ Hid (Chg (fun _ => False) W7 wr)) (fun i _ => cn - (intOf i).toNat)
              case atStart => exact ⟨0, by omega, rfl, Lib.hid (Chg.refl _ _)⟩
              case round =>
                obtain ⟨r, hr, rfl, HC8⟩ := hrel
                by_cases hr2 : r < cn
                · obtain ⟨hWh, hO7, hp7, hs7, hcn, k7⟩ := HR.out
                  obtain ⟨bx, cx, e6, _, _, v0, v1, _⟩ := ownF_cells (hO7.chg HC8.out (fun _ _ => id)) (k := r) (by omega)
                  simp only [Value.slice.injEq] at e6
                  obtain ⟨rfl, -, rfl⟩ := e6
                  have x8 := (read4 (chg_heap0 HC8.out k7)).2.2.2
                  have hpos := hp7 _ (getD_mem (l := ch) (k := r) (by omega))
                  have hr8 : r < 8 := by omega
                  have hr8b : decide ((8 : Int) ≤ (r : Int)) = false := by simp; omega
                  cases r with
                  | zero =>
                    obtain ⟨am, ham⟩ : ∃ x, x = (ch.getD 0 d0).1 := ⟨_, rfl⟩
                    rw [← ham] at v0 hpos
                    have hamb : (am == 0) = false := beq_eq_false_iff_ne.2 (by omega)
                    clear hWh hO7 hp7 hs7 hcn k7 ham
                    go_wp2
                    go_quiet (fail)
                    go_wp2
                    go_roundw
                    case rel => exact ⟨1, by omega, by go_num, Lib.hid (HC8.out.drewN _)⟩
                    case measure => simp [intOf]; omega
                  | succ r =>
                    obtain ⟨bx2, _, e7, _, _, _, u1, _⟩ := ownF_cells (hO7.chg HC8.out (fun _ _ => id)) (k := r) (by omega)
                    simp only [Value.slice.injEq, Option.some.injEq, Addr.mk.injEq, and_true] at e7
                    obtain ⟨rfl, -, -⟩ := e7
                    have hlt := hs7 r (r + 1) (by omega) (by omega)
                    obtain ⟨am, ham⟩ : ∃ x, x = (ch.getD (r + 1) d0).1 := ⟨_, rfl⟩
                    obtain ⟨e1, he1⟩ : ∃ x, x = (ch.getD (r + 1) d0).2 := ⟨_, rfl⟩
                    obtain ⟨e0, he0⟩ : ∃ x, x = (ch.getD r d0).2 := ⟨_, rfl⟩
                    rw [← ham] at v0 hpos
                    rw [← he1] at v1 hlt
                    rw [← he0] at u1 hlt
                    have hamb : (am == 0) = false := beq_eq_false_iff_ne.2 (by omega)
                    have heb : decide (e1 ≤ e0) = false := by simp; omega
                    clear hWh hO7 hp7 hs7 hcn k7 ham he1 he0
                    go_wp2
                    go_quiet (fail)
                    go_wp2
                    go_roundw
                    case rel => exact ⟨r + 1 + 1, by omega, by go_num, Lib.hid (HC8.out.drewN _)⟩
                    case measure => simp [intOf]; omega
                · have er : r = cn := by omega
                  subst er
                  have HT2 := Lib.hid (HR.out.1.keep HC8.out)
                  clear HR HC8 x3
                  go_wp2
                  go_roundw
                  case rel => exact ⟨t + 1, by omega, by go_num, HT2⟩
                  case measure => simp [intOf]; omega
            · have et : t = n := by omega
              subst et
              go_wp2
              go_roundw
              case rel => exact ⟨k + 1, by omega, by go_num, Lib.hid ⟨_, HT.out⟩⟩
              case measure => simp [intOf]; omega
      · have ek : k = m := by omega
        subst ek
        go_wp2
        go_ret
        refine ⟨rfl, ?_⟩
        obtain ⟨_, _, _, _, _, _, _, hCw, _⟩ := HK.out
        exact hCw.below (fun k hk => ⟨hk, id⟩)
  · unfold NewPost at hN
    rw [if_neg (by have := HH.out.2.2.2.2.1; omega), if_neg hsu] at hN
    obtain ⟨rfl, hC2⟩ := hN
    have HB := Lib.hid ((HC.out.trans hC2 (fun _ _ h => h)).below (B := w.heap.size) (fun k hk => ⟨hk, id⟩))
    obtain ⟨er, her⟩ : ∃ e, e = (sumU 0 bl).2 := ⟨_, rfl⟩
    rw [← her] at hsu ⊢
    clear hC2 her hnew HH HC
    go_wp2
    go_ret
    exact ⟨rfl, HB.out⟩
end Go.Proofs.Ytpndkelbchjkiaa
